/- Contracts: the beginning of a text; a trace of bytes. -/
import Derived.Shelf.SlMaps.Clone
import Derived.Test.YtjebfbkigkjboaaGreatDoorR5
set_option maxRecDepth 100000
namespace Go.Proofs.YtjebfbkigkjboaaGreatDoor.Sy
open Go.RowKit Kit Go.Proofs
/-! ### strings.CutPrefix -/
def cutP (s p : ByteArray) : ByteArray × Bool := if p.size ≤ s.size ∧ s.extract 0 p.size = p then (s.extract p.size s.size, true) else (s, false)
noncomputable def fn89 := mkFn Tryz.f168
theorem A89_ok : CtrOk Tryz.prog 168 (auto fn89 C0 0 []) := auto_ok C0_ok mixed (.of Tryz.func168 (by kernel_rfl))
noncomputable def fn73 := mkFn Tryz.f98
noncomputable def C73 : Cx := ⟨T, FL, [(168, auto fn89 C0 0 [])], [], []⟩
theorem C73_ok : CxOk Tryz.prog C73 := ⟨T_ok, FL_ok, .cons A89_ok (.nil _), .nil _⟩
def cutPCtr : Ctr := ctr (two aS aS) fun a => .need (decide (a.1.size ≤ 1000000000 ∧ a.2.1.size ≤ 1000000000)) (ans2 (eS (cutP a.1 a.2.1).1) (eB (cutP a.1 a.2.1).2))
theorem cutP0_ok : CtrOk Tryz.prog 98 cutPCtr := by
  refine .mk C73_ok mixed (q := fn73) (.of Tryz.func98 (by kernel_rfl)) (N := 0) (nr := []) .none (by decide) ?_
  rintro ⟨(s : ByteArray), (p : ByteArray), ⟨⟩⟩ -
  show Gives _ (.need _ (.ret (SV.tup [eS (cutP s p).1, eB (cutP s p).2], (⟨0, [], []⟩ : St))))
  refine .rnd fun ⟨h1, h2⟩ => ?_
  have h1 : s.size ≤ 1000000000 := h1
  have h2 : p.size ≤ 1000000000 := h2
  refine Gives.of_eq (t' := .ite (decide ((((ByteArray.size p) : Nat) : Int) ≤ (((ByteArray.size s) : Nat) : Int))) (.need (okB (0 : Int) (((ByteArray.size p) : Nat) : Int) (ByteArray.size s)) (.ite (!(decide ((ByteArray.extract s 0 (ByteArray.size p)) = p))) (.ret (.tup [.c (.d (.v (.string s))), .c (.d (.v (.bool false)))], ⟨0, [], []⟩)) (.need (okB (((ByteArray.size p) : Nat) : Int) (((ByteArray.size s) : Nat) : Int) (ByteArray.size s)) (.ret (.tup [.c (.d (.v (.string (ByteArray.extract s (ByteArray.size p) (ByteArray.size s))))), .c (.d (.v (.bool true)))], ⟨0, [], []⟩))))) (.ite true (.ret (.tup [.c (.d (.v (.string s))), .c (.d (.v (.bool false)))], ⟨0, [], []⟩)) (.need (okB (((ByteArray.size p) : Nat) : Int) (((ByteArray.size s) : Nat) : Int) (ByteArray.size s)) (.ret (.tup [.c (.d (.v (.string (ByteArray.extract s (ByteArray.size p) (ByteArray.size s))))), .c (.d (.v (.bool true)))], ⟨0, [], []⟩))))) (by kernel_rfl) ?_
  refine .if_ (fun h => ?_) (fun h => ?_)
  · refine .need (by simp [okB]; omega) (.ite (fun h' => ?_) (fun h' => ?_))
    · rw [show cutP s p = (s, false) from if_neg (fun hc => by simp [hc.2] at h')]; exact .refl _
    · rw [show cutP s p = (s.extract p.size s.size, true) from if_pos ⟨by omega, by simpa using h'⟩]
      exact .need (by simp [okB]; omega) (.refl _)
  · refine .tt rfl ?_
    rw [show cutP s p = (s, false) from if_neg (fun hc => by omega)]; exact .refl _
noncomputable def fn55 := mkFn Tryz.f57
noncomputable def C55 : Cx := ⟨T, FL, [(98, cutPCtr)], [], []⟩
theorem C55_ok : CxOk Tryz.prog C55 := ⟨T_ok, FL_ok, .cons cutP0_ok (.nil _), .nil _⟩
theorem cutP_ok : CtrOk Tryz.prog 57 cutPCtr := by
  refine .mk C55_ok mixed (q := fn55) (.of Tryz.func57 (by kernel_rfl)) (N := 0) (nr := []) .none (by decide) ?_
  rintro ⟨(s : ByteArray), (p : ByteArray), ⟨⟩⟩ -
  show Gives _ (.need _ (.ret (SV.tup [eS (cutP s p).1, eB (cutP s p).2], (⟨0, [], []⟩ : St))))
  refine .rnd fun h => ?_
  refine Gives.of_eq (t' := .need (decide (((ByteArray.size s) ≤ 1000000000) ∧ ((ByteArray.size p) ≤ 1000000000))) (.ret (.tup [.c (.d (.v (.string ((cutP s p)).1))), .c (.d (.v (.bool ((cutP s p)).2)))], ⟨0, [], []⟩))) (by kernel_rfl) ?_
  exact .nd h (.refl _)

/-! ### image.untrace -/
def evF (b : List Int) : Bool × Int := (b.getD 0 0 == 1, IntKind.wrap .u16 (num2 (b.getD 1 0) (b.getD 2 0)))
def unL : Nat → List Int → List (Bool × Int) × List Int
  | 0, b => ([], b)
  | n + 1, b => if 6 ≤ b.length then (evF b :: (unL n (b.drop 3)).1, (unL n (b.drop 3)).2) else ([], b)
def untraceF (b : List Int) : Trc :=
  if (unL b.length b).2.length = 3 then ((unL b.length b).1, IntKind.wrap .i64 ((unL b.length b).2.getD 0 0), IntKind.wrap .u16 (num2 ((unL b.length b).2.getD 1 0) ((unL b.length b).2.getD 2 0))) else ((unL b.length b).1, 0, 0)
noncomputable def fn56 := mkFn Tryz.f58
noncomputable def C56 : Cx := ⟨T, FL, [(99, numCtr)], [], [FA]⟩
theorem C56_ok : CxOk Tryz.prog C56 := ⟨T_ok, FL_ok, .cons num_ok (.nil _), .nil _⟩
abbrev CB56 : Nat := 1000003000
def nr56 : List NR := [⟨CB56, tEv, 112⟩]
def q56 : Frm := ⟨37, [(0, .dat tB), (2, .np 2 0), (3, .np 3 0)], [(2, .cells 36 [.nil, .dat tI, .dat (.int .u16)]), (3, .cells 36 [.row CB56, .dat tI, .dat (.int .u16)]), (CB56, .row tEv 112)]⟩
def R56 : q56.V → Tr (Ex × St) := fun (((b : List Int), _, _, _), ((_, (e0 : Int), (c0 : Int), _), (_, (e : Int), (c : Int), _), (acc : List (Bool × Int)), _)) =>
  .need (decide (acc.length + b.length ≤ 1000000000)) (.ret (.ex 0, q56.st (((unL b.length b).2, (), (), ()), (((), e0, c0, ()), ((), e, c, ()), acc ++ (unL b.length b).1, ()))))
def lp56 : LP := [(0, sumP q56 R56)]
theorem unL_fuel : ∀ (n : Nat) (b : List Int), b.length ≤ n → unL n b = unL b.length b := by
  intro n
  induction n using Nat.strongRecOn with
  | ind n ih =>
    intro b hb
    by_cases h0 : 6 ≤ b.length
    · obtain ⟨m, hm⟩ : ∃ m, b.length = m + 1 := ⟨b.length - 1, by omega⟩
      obtain ⟨k, rfl⟩ : ∃ k, n = k + 1 := ⟨n - 1, by omega⟩
      have hl : (b.drop 3).length = b.length - 3 := List.length_drop
      conv => rhs; rw [hm]
      rw [unL, unL, if_pos h0, if_pos h0, ih k (by omega) _ (by omega), ih m (by omega) _ (by omega)]
    · have e : ∀ m, unL m b = ([], b) := fun m => by
        cases m with
        | zero => rfl
        | succ m => rw [unL, if_neg h0]
      rw [e, e]
theorem unL_more {b : List Int} (h : 6 ≤ b.length) : unL b.length b = (evF b :: (unL (b.drop 3).length (b.drop 3)).1, (unL (b.drop 3).length (b.drop 3)).2) := by
  obtain ⟨m, hm⟩ : ∃ m, b.length = m + 1 := ⟨b.length - 1, by omega⟩
  have hl : (b.drop 3).length = b.length - 3 := List.length_drop
  conv => lhs; rw [hm]
  rw [unL, if_pos h, unL_fuel m _ (by omega)]
theorem unL_less {b : List Int} (h : ¬ 6 ≤ b.length) {m : Nat} : unL m b = ([], b) := by
  cases m with
  | zero => rfl
  | succ m => rw [unL, if_neg h]
theorem getD_drop (l : List Int) (k i : Nat) : (l.drop k).getD i 0 = l.getD (k + i) 0 := by
  simp only [List.getD_eq_getElem?_getD, List.getElem?_drop]
theorem lp56_ok : LpsOk 0 C56 nr56 lp56 fn56.loops := by
  refine .all (by kernel_rfl) ?_
  simp only [lp56, List.forall_mem_cons, List.not_mem_nil, false_imp_iff, implies_true, and_true]
  refine .pat q56 R56 (fun v => v.1.1.length) ?_
  rintro ⟨⟨(b : List Int), ⟨⟩, ⟨⟩, ⟨⟩⟩, ⟨⟨⟩, (e0 : Int), (c0 : Int), ⟨⟩⟩, ⟨⟨⟩, (e : Int), (c : Int), ⟨⟩⟩, (acc : List (Bool × Int)), ⟨⟩⟩ ih
  refine Gives.run (t' := .ite (decide ((6 : Int) ≤ (((List.length b) : Nat) : Int))) (.need (inR (0 : Int) (List.length b)) (.need (okB (1 : Int) (((List.length b) : Nat) : Int) (List.length b)) (.need (decide (2 ≤ (List.length (List.drop 1 (List.take (List.length b) b))))) (.need true (.need (decide ((((List.length acc) + (List.length [(((List.getD b 0 (0 : Int)) == (1 : Int)), (IntKind.wrap IntKind.u16 (num2 (List.getD (List.drop 1 (List.take (List.length b) b)) 0 (0 : Int)) (List.getD (List.drop 1 (List.take (List.length b) b)) 1 (0 : Int)))))]) : Nat) * (Lay.bytes L112) : Nat) ≤ 140737488355328)) (.need (okB (3 : Int) (((List.length b) : Nat) : Int) (List.length b)) (.ret (.nx, ⟨37, [(0, rL tU (List.drop 3 (List.take (List.length b) b))), (2, .e (.c (.np 2 0))), (3, .e (.c (.np 3 0)))], [(2, .cells 36 [.nil, .d (.v (.int .i64 e0)), .d (.v (.int .u16 c0))]), (3, .cells 36 [.row 19, .d (.v (.int .i64 e)), .d (.v (.int .u16 c))]), (19, .row tEv 112 (acc ++ [(((List.getD b 0 (0 : Int)) == (1 : Int)), (IntKind.wrap IntKind.u16 (num2 (List.getD (List.drop 1 (List.take (List.length b) b)) 0 (0 : Int)) (List.getD (List.drop 1 (List.take (List.length b) b)) 1 (0 : Int)))))]))]⟩)))))))) (.ret (.ex 0, ⟨37, [(0, rL tU b), (2, .e (.c (.np 2 0))), (3, .e (.c (.np 3 0)))], [(2, .cells 36 [.nil, .d (.v (.int .i64 e0)), .d (.v (.int .u16 c0))]), (3, .cells 36 [.row 1000003000, .d (.v (.int .i64 e)), .d (.v (.int .u16 c))]), (1000003000, .row tEv 112 acc)]⟩))) (by kernel_rfl) ?_
  refine .rnd fun h1 => ?_
  refine .lif (fun hk => ?_) (fun hk => ?_)
  · have hk : 6 ≤ b.length := by omega
    have hl : (b.drop 3).length = b.length - 3 := List.length_drop
    rw [unL_more hk]
    simp only [List.take_length, getD_drop]
    refine .lneed (inR_of (by omega) (by omega)) (.lneed (by simp [okB]; omega) (.lnd (by rw [List.length_drop]; omega) (.lneed rfl (.lnd (by show (acc.length + 1) * 4 ≤ _; omega) (.lneed (by simp [okB]; omega) ?_)))))
    refine Gives.next (σ' := q56.st ((b.drop 3, (), (), ()), (((), e0, c0, ()), ((), e, c, ()), acc ++ [evF b], ()))) (by kernel_rfl) ((ih ((b.drop 3, (), (), ()), (((), e0, c0, ()), ((), e, c, ()), acc ++ [evF b], ())) (by show (b.drop 3).length < b.length; omega)).trans ?_)
    refine .nd (by rw [List.length_append]; simp; omega) ?_
    rw [List.append_assoc]
    exact .refl _
  · rw [unL_less (by omega), List.append_nil]
    exact .refl _
def untrCtr : Ctr := ctr (one (aVal tB)) fun a => .need (decide (a.1.length ≤ 1000000000)) (ans (.e (.agg ((split tTr (untraceF a.1)).map .d))))
theorem untr_ok : CtrOk Tryz.prog 58 untrCtr := by
  refine .mk C56_ok mixed (q := fn56) (.of Tryz.func58 (by kernel_rfl)) lp56_ok (by decide) ?_
  rintro ⟨(b : List Int), ⟨⟩⟩ -
  refine Gives.of_eq (t' := .need (decide (((List.length ([] : List (Prod (Ty.El Ty.bool) (Ty.El (Ty.int IntKind.u16))))) + (List.length b) : Nat) ≤ 1000000000)) (.ite ((((List.length ((unL (List.length b) b)).2) : Nat) : Int) == (3 : Int)) (.need (inR (0 : Int) (List.length ((unL (List.length b) b)).2)) (.need (okB (1 : Int) (((List.length ((unL (List.length b) b)).2) : Nat) : Int) (List.length ((unL (List.length b) b)).2)) (.need (decide (2 ≤ (List.length (List.drop 1 (List.take (List.length ((unL (List.length b) b)).2) ((unL (List.length b) b)).2))))) (.need true (.need true (.ret (.e (.agg [.d (.sl tEv (([] : List (Prod Bool Int)) ++ ((unL (List.length b) b)).1)), .d (.v (.int .i64 (IntKind.wrap IntKind.i64 (List.getD ((unL (List.length b) b)).2 0 (0 : Int))))), .d (.v (.int .u16 (IntKind.wrap IntKind.u16 (num2 (List.getD (List.drop 1 (List.take (List.length ((unL (List.length b) b)).2) ((unL (List.length b) b)).2)) 0 (0 : Int)) (List.getD (List.drop 1 (List.take (List.length ((unL (List.length b) b)).2) ((unL (List.length b) b)).2)) 1 (0 : Int))))))]), ⟨0, [], []⟩))))))) (.need true (.need true (.ret (.e (.agg [.d (.sl tEv (([] : List (Prod Bool Int)) ++ ((unL (List.length b) b)).1)), .d (.v (.int .i64 (0 : Int))), .d (.v (.int .u16 (0 : Int)))]), ⟨0, [], []⟩)))))) (by kernel_rfl) ?_
  show Gives _ (.need _ (.ret (SV.e (.agg ((split tTr (untraceF b)).map .d)), (⟨0, [], []⟩ : St))))
  refine .rnd fun h1 => ?_
  have h1 : b.length ≤ 1000000000 := h1
  unfold untraceF
  generalize unL b.length b = u
  obtain ⟨ev, r⟩ := u
  refine .nd (by simpa using h1) (.ite (fun h => ?_) (fun h => ?_))
  · have h : (r.length : Int) = 3 := beq_iff_eq.1 h
    have h : r.length = 3 := by omega
    rw [if_pos h]
    simp only [List.take_length, List.nil_append, getD_drop]
    exact .need (inR_of (by omega) (by omega)) (.need (by simp [okB]; omega) (.nd (by rw [List.length_drop]; omega) (.need rfl (.need rfl (.refl _)))))
  · have h : ¬ (r.length : Int) = 3 := beq_eq_false_iff_ne.1 h
    have h : ¬ r.length = 3 := by omega
    rw [if_neg h, List.nil_append]
    exact .need rfl (.need rfl (.refl _))
end Go.Proofs.YtjebfbkigkjboaaGreatDoor.Sy

/- Contracts: the numbers of a class are read. -/
set_option maxRecDepth 100000
namespace Go.Proofs.YtjebfbkigkjboaaGreatDoor.Sy
open Go.RowKit Kit Go.Proofs
/-! ### class.Files, its row given away -/
def C37r : Cx := ⟨T, [], [], [], []⟩
theorem C37r_ok : CxOk Tryz.prog C37r := ⟨T_ok, .nil _, .nil _, .nil _⟩
theorem lp37r_ok : LpsOk 0 C37r nr37 lp37 fn37.loops := by
  refine .all (by kernel_rfl) ?_
  simp only [lp37, List.forall_mem_cons, List.not_mem_nil, false_imp_iff, implies_true, and_true]
  refine .pat q37 R37 (fun v => (v.1.2.2.1 - v.1.2.2.2.1).toNat) ?_
  rintro ⟨⟨⟨⟩, (L : List Ent), (n : Int), (k : Int), ⟨⟩⟩, ⟨(acc : List Int), ⟨⟩⟩⟩ ih
  refine Gives.run (t' := .ite (decide (k < n)) (.need (inR k (List.length L)) (.need true (.ite (!(((List.getD L (Int.toNat k) (ByteArray.empty, (false, (0 : Int))))).2).1) (.need true (.need (decide ((((List.length acc) + (List.length [k]) : Nat) * (Lay.bytes L3) : Nat) ≤ 140737488355328)) (.need (decide (((-(9223372036854775808 : Int) : Int) ≤ (k + (1 : Int) : Int)) ∧ ((k + (1 : Int) : Int) ≤ (9223372036854775807 : Int)))) (.ret (.nx, ⟨23, [(3, .e (.c (.row 20))), (7, rL tEnt L), (8, rI n), (9, rI (k + (1 : Int) : Int))], [(5, .cells 84 [.d (.v (.string ((List.getD L (Int.toNat k) (ByteArray.empty, (false, (0 : Int))))).1)), .d (.v (.bool (((List.getD L (Int.toNat k) (ByteArray.empty, (false, (0 : Int))))).2).1)), .d (.v (.int .i64 (((List.getD L (Int.toNat k) (ByteArray.empty, (false, (0 : Int))))).2).2))]), (20, .row tI 3 (acc ++ [k]))]⟩))))) (.need (decide (((-(9223372036854775808 : Int) : Int) ≤ (k + (1 : Int) : Int)) ∧ ((k + (1 : Int) : Int) ≤ (9223372036854775807 : Int)))) (.ret (.nx, ⟨23, [(3, .e (.c (.row 3))), (7, rL tEnt L), (8, rI n), (9, rI (k + (1 : Int) : Int))], [(3, .row tI 3 acc), (5, .cells 84 [.d (.v (.string ((List.getD L (Int.toNat k) (ByteArray.empty, (false, (0 : Int))))).1)), .d (.v (.bool (((List.getD L (Int.toNat k) (ByteArray.empty, (false, (0 : Int))))).2).1)), .d (.v (.int .i64 (((List.getD L (Int.toNat k) (ByteArray.empty, (false, (0 : Int))))).2).2))])]⟩)))))) (.ret (.ex 0, ⟨23, [(3, .e (.c (.row 3)))], [(3, .row tI 3 acc)]⟩))) (by kernel_rfl) ?_
  refine .rnd fun ⟨h1, h2, h3, h4, h5⟩ => ?_
  refine .lif (fun hk => ?_) (fun hk => ?_)
  · have e : (k + 1).toNat = k.toNat + 1 := by omega
    rw [drop_at L k.toNat (ByteArray.empty, false, 0) (by omega)]
    refine .lneed (inR_of h3 (by omega)) (.lneed rfl ?_)
    generalize L.getD k.toNat (ByteArray.empty, false, 0) = x
    refine .lite (fun hx => ?_) (fun hx => ?_)
    · have hx : x.2.1 = false := by simpa using hx
      have e1 : filesK k (x :: L.drop (k.toNat + 1)) = k :: filesK (k + 1) (L.drop (k.toNat + 1)) := by rw [filesK, hx]; rfl
      refine .lneed rfl (.lnd (by show (acc.length + 1) * 8 ≤ _; omega) (.lnd (by omega) ?_))
      refine Gives.next (σ' := q37.st (((), L, n, k + 1, ()), (acc ++ [k], ()))) (by kernel_rfl) ((ih (((), L, n, k + 1, ()), (acc ++ [k], ())) (by simp only; omega)).trans ?_)
      refine .nd ⟨h1, h2, by omega, by omega, by rw [List.length_append]; simp; omega⟩ ?_
      rw [e1, e, List.append_assoc]; exact .refl _
    · have hx : x.2.1 = true := by simpa using hx
      have e1 : filesK k (x :: L.drop (k.toNat + 1)) = filesK (k + 1) (L.drop (k.toNat + 1)) := by rw [filesK, hx]; rfl
      refine .lnd (by omega) ?_
      refine Gives.next (σ' := q37.st (((), L, n, k + 1, ()), (acc, ()))) (by kernel_rfl) ((ih (((), L, n, k + 1, ()), (acc, ())) (by simp only; omega)).trans ?_)
      refine .nd ⟨h1, h2, by omega, by omega, by omega⟩ ?_
      rw [e1, e]; exact .refl _
  · rw [List.drop_eq_nil_of_le (by omega)]
    simp only [filesK, List.append_nil]
    exact .refl _
def filesRCtr : Ctr := ctr (one (aAgg tCls)) fun a => .need (decide (a.1.1.length ≤ 1000000)) (.ret (.e (.c (.row 3)), [(3, .row tI 3 (filesK 0 a.1.1))]))
theorem filesR_ok : CtrOk Tryz.prog 21 filesRCtr := by
  refine .mk C37r_ok mixed (q := fn37) (.of Tryz.func21 (by kernel_rfl)) lp37r_ok (by decide) ?_
  rintro ⟨⟨(L : List Ent), c⟩, ⟨⟩⟩ hb
  refine Gives.of_eq (t' := .need (decide (((((List.length L) : Nat) : Int) = (((List.length L) : Nat) : Int)) ∧ (((((List.length L) : Nat) : Int) ≤ (1000000 : Int)) ∧ (((0 : Int) ≤ (0 : Int)) ∧ (((0 : Int) ≤ (((List.length L) : Nat) : Int)) ∧ ((((List.length ([] : List Int)) : Nat) : Int) ≤ (0 : Int))))))) (.ret (.e (.c (.row 3)), ⟨0, [], [(3, .row tI 3 (([] : List Int) ++ (filesK (0 : Int) (List.drop 0 L))))]⟩))) (by kernel_rfl) ?_
  show Gives _ (.need _ (.ret (SV.e (.c (.row 3)), (⟨0, [], [(3, .row tI 3 (filesK 0 L))]⟩ : St))))
  refine .rnd fun h => ?_
  have h : L.length ≤ 1000000 := h
  exact .nd ⟨rfl, by omega, by omega, by omega, by simp⟩ (.refl _)
end Go.Proofs.YtjebfbkigkjboaaGreatDoor.Sy

/- Contracts: image.unkind. -/
set_option maxRecDepth 100000
namespace Go.Proofs.YtjebfbkigkjboaaGreatDoor.Sy
open Go.RowKit Kit Go.Proofs
def qC : Frm := ⟨0, [(GH, .np LB 0), (GH + 1, .row (LB + 1)), (GH + 2, .row (LB + 2)), (GH + 3, .row (LB + 3)), (GH + 4, .row (LB + 4)), (GH + 5, .row (LB + 5))],
  [(LB, .cells 42 [.dat (.sl tInst), .dat (.sl .str), .row (LB + 1), .row (LB + 2), .dat tI, .dat tI, .dat tI, .row (LB + 3), .row (LB + 4), .row (LB + 5), .dat (.sl tEv), .dat tI, .dat (.int .u16)]), (LB + 1, .row tEnt 84), (LB + 2, .row tI 3), (LB + 3, .row tB 43), (LB + 4, .row tB 43), (LB + 5, .row .bool 4)]⟩
def ghC : List (Nat × SV) := [(GH, .e (.c (.np LB 0))), (GH + 1, .e (.c (.row (LB + 1)))), (GH + 2, .e (.c (.row (LB + 2)))), (GH + 3, .e (.c (.row (LB + 3)))), (GH + 4, .e (.c (.row (LB + 4)))), (GH + 5, .e (.c (.row (LB + 5))))]
def obC (m : Img) : List (Nat × Ob) := [(LB, .cells 42 [.d (.sl tInst m.1.1), .d (.sl .str m.1.2), .row (LB + 1), .row (LB + 2), .d (.v (.int .i64 m.2.1.2.2.1)), .d (.v (.int .i64 m.2.1.2.2.2.1)), .d (.v (.int .i64 m.2.1.2.2.2.2)), .row (LB + 3), .row (LB + 4), .row (LB + 5), .d (.sl tEv m.2.2.2.1), .d (.v (.int .i64 m.2.2.2.2.1)), .d (.v (.int .u16 m.2.2.2.2.2))]), (LB + 1, .row tEnt 84 m.2.1.1), (LB + 2, .row tI 3 m.2.1.2.1), (LB + 3, .row tB 43 m.2.2.1.1), (LB + 4, .row tB 43 m.2.2.1.2.1), (LB + 5, .row .bool 4 m.2.2.1.2.2)]
/-- an image that is lent, its rows apart -/
def stC (m : Img) : St := ⟨0, ghC, obC m⟩
def imgO (o : obV qC.os) : Img :=
  ((o.1.1, o.1.2.1), (o.2.1, o.2.2.1, o.1.2.2.2.2.1, o.1.2.2.2.2.2.1, o.1.2.2.2.2.2.2.1), (o.2.2.2.1, o.2.2.2.2.1, o.2.2.2.2.2.1), (o.1.2.2.2.2.2.2.2.2.2.2.1, o.1.2.2.2.2.2.2.2.2.2.2.2.1, o.1.2.2.2.2.2.2.2.2.2.2.2.2.1))
theorem qC_st (v : qC.V) : qC.st v = stC (imgO v.2) := rfl
def setAt : List Ent → List Int → List Int → List Ent
  | t, [], _ => t
  | t, i :: is, b => setAt (t.set i.toNat ((t.getD i.toNat (ByteArray.empty, false, 0)).1, (t.getD i.toNat (ByteArray.empty, false, 0)).2.1, IntKind.wrap .i64 (b.getD 0 0))) is (b.drop 1)
noncomputable def fn57 := mkFn Tryz.f59
noncomputable def C57 : Cx := ⟨T, FL, [(99, numCtr), (21, filesRCtr)], [], []⟩
theorem C57_ok : CxOk Tryz.prog C57 := ⟨T_ok, FL_ok, .cons num_ok (.cons filesR_ok (.nil _)), .nil _⟩
def q57a : Frm := ⟨90, [(0, .np LB 2), (1, .dat tB), (50, .row 4050), (51, .dat tI), (52, .dat tI), (GH, .np LB 0), (GH + 1, .row (LB + 1)), (GH + 2, .row (LB + 2)), (GH + 3, .row (LB + 3)), (GH + 4, .row (LB + 4)), (GH + 5, .row (LB + 5))],
  [(4050, .row tI 3), (LB, .cells 42 [.dat (.sl tInst), .dat (.sl .str), .row (LB + 1), .row (LB + 2), .dat tI, .dat tI, .dat tI, .row (LB + 3), .row (LB + 4), .row (LB + 5), .dat (.sl tEv), .dat tI, .dat (.int .u16)]), (LB + 1, .row tEnt 84), (LB + 2, .row tI 3), (LB + 3, .row tB 43), (LB + 4, .row tB 43), (LB + 5, .row .bool 4)]⟩
def withTree (m : Img) (t : List Ent) : Img := (m.1, (t, m.2.1.2), m.2.2)
def withArgs (m : Img) (ar : List Int) : Img := (m.1, (m.2.1.1, ar, m.2.1.2.2), m.2.2)
def st57 (m : Img) (b : List Int) : St := ⟨90, (0, .e (.c (.np LB 2))) :: (1, rL tU b) :: ghC, obC m⟩
def R57a : q57a.V → Tr (Ex × St) := fun v =>
  .need (decide (v.1.2.2.2.1 = v.2.1.length ∧ v.1.2.2.2.1 ≤ 1000000 ∧ 0 ≤ v.1.2.2.2.2.1 ∧ v.1.2.2.2.2.1 ≤ v.1.2.2.2.1 ∧ idxIn v.2.2.2.1.length v.2.1 = true ∧ v.1.2.2.2.1 - v.1.2.2.2.2.1 ≤ v.1.2.1.length))
    (.ret (.ex 0, st57 (withTree (imgO v.2.2) (setAt v.2.2.2.1 (v.2.1.drop v.1.2.2.2.2.1.toNat) v.1.2.1)) (v.1.2.1.drop (v.1.2.2.2.1 - v.1.2.2.2.2.1).toNat)))
def q57b : Frm := ⟨90, [(0, .np LB 2), (1, .dat tB), (74, .dat tI), (75, .dat tI), (GH, .np LB 0), (GH + 1, .row (LB + 1)), (GH + 2, .row (LB + 2)), (GH + 3, .row (LB + 3)), (GH + 4, .row (LB + 4)), (GH + 5, .row (LB + 5))],
  [(LB, .cells 42 [.dat (.sl tInst), .dat (.sl .str), .row (LB + 1), .row (LB + 2), .dat tI, .dat tI, .dat tI, .row (LB + 3), .row (LB + 4), .row (LB + 5), .dat (.sl tEv), .dat tI, .dat (.int .u16)]), (LB + 1, .row tEnt 84), (LB + 2, .row tI 3), (LB + 3, .row tB 43), (LB + 4, .row tB 43), (LB + 5, .row .bool 4)]⟩
def R57b : q57b.V → Tr (Ex × St) := fun v =>
  .need (decide (v.1.2.2.1 = v.2.2.2.1.length ∧ v.1.2.2.1 ≤ 1000000 ∧ 0 ≤ v.1.2.2.2.1 ∧ v.1.2.2.2.1 ≤ v.1.2.2.1 ∧ v.1.2.1.length = v.2.2.2.1.length))
    (.ret (.ex 2, ⟨90, ghC, obC (withArgs (imgO v.2) (v.2.2.2.1.take v.1.2.2.2.1.toNat ++ (v.1.2.1.drop v.1.2.2.2.1.toNat).map (IntKind.wrap .i64)))⟩))
noncomputable def lp57 : LP := [(0, sumP q57a R57a), (2, sumP q57b R57b)]
set_option maxHeartbeats 2000000 in
theorem lp57a_ok : SumOk 0 C57 [] lp57 (fn57.at 0) (sumP q57a R57a) := by
  refine .pat q57a R57a (fun v => (v.1.2.2.2.1 - v.1.2.2.2.2.1).toNat) ?_
  rintro ⟨⟨⟨⟩, (b : List Int), ⟨⟩, (n : Int), (k : Int), ge⟩, ⟨(L : List Int), ob⟩⟩ ih
  obtain ⟨⟨iL, iN, ⟨⟩, ⟨⟩, (c1 : Int), (c2 : Int), (c3 : Int), ⟨⟩, ⟨⟩, ⟨⟩, tl, te, tc, ⟨⟩⟩, (t : List Ent), (ar : List Int), fs, fa, ff, ⟨⟩⟩ := ob
  refine Gives.run (t' := .ite (decide (k < n)) (.need (inR k (List.length L)) (.need (decide ((Int.toNat k) < (List.length L))) (.need (inR (0 : Int) (List.length b)) (.need (inR (List.getD L (Int.toNat k) (0 : Int)) (List.length t)) (.need (decide ((Int.toNat (List.getD L (Int.toNat k) (0 : Int))) < (List.length t))) (.need (okB (1 : Int) (((List.length b) : Nat) : Int) (List.length b)) (.need (decide (((-(9223372036854775808 : Int) : Int) ≤ (k + (1 : Int) : Int)) ∧ ((k + (1 : Int) : Int) ≤ (9223372036854775807 : Int)))) (.ret (.nx, ⟨90, [(0, .e (.c (.np 1000000000000 2))), (1, rL tU (List.drop 1 (List.take (List.length b) b))), (50, .e (.c (.row 4050))), (51, rI n), (52, rI (k + (1 : Int) : Int)), (100000, .e (.c (.np 1000000000000 0))), (100001, .e (.c (.row 1000000000001))), (100002, .e (.c (.row 1000000000002))), (100003, .e (.c (.row 1000000000003))), (100004, .e (.c (.row 1000000000004))), (100005, .e (.c (.row 1000000000005)))], [(4050, .row tI 3 L), (1000000000000, .cells 42 [.d (.sl tInst iL), .d (.sl Ty.str iN), .row 1000000000001, .row 1000000000002, .d (.v (.int .i64 c1)), .d (.v (.int .i64 c2)), .d (.v (.int .i64 c3)), .row 1000000000003, .row 1000000000004, .row 1000000000005, .d (.sl tEv tl), .d (.v (.int .i64 te)), .d (.v (.int .u16 tc))]), (1000000000001, .row tEnt 84 (List.set t (Int.toNat (List.getD L (Int.toNat k) (0 : Int))) (((List.getD t (Int.toNat (List.getD L (Int.toNat k) (0 : Int))) (ByteArray.empty, (false, (0 : Int))))).1, ((((List.getD t (Int.toNat (List.getD L (Int.toNat k) (0 : Int))) (ByteArray.empty, (false, (0 : Int))))).2).1, (IntKind.wrap IntKind.i64 (List.getD b 0 (0 : Int))))))), (1000000000002, .row tI 3 ar), (1000000000003, .row tB 43 fs), (1000000000004, .row tB 43 fa), (1000000000005, .row Ty.bool 4 ff)]⟩))))))))) (.ret (.ex 0, ⟨90, [(0, .e (.c (.np 1000000000000 2))), (1, rL tU b), (100000, .e (.c (.np 1000000000000 0))), (100001, .e (.c (.row 1000000000001))), (100002, .e (.c (.row 1000000000002))), (100003, .e (.c (.row 1000000000003))), (100004, .e (.c (.row 1000000000004))), (100005, .e (.c (.row 1000000000005)))], [(1000000000000, .cells 42 [.d (.sl tInst iL), .d (.sl Ty.str iN), .row 1000000000001, .row 1000000000002, .d (.v (.int .i64 c1)), .d (.v (.int .i64 c2)), .d (.v (.int .i64 c3)), .row 1000000000003, .row 1000000000004, .row 1000000000005, .d (.sl tEv tl), .d (.v (.int .i64 te)), .d (.v (.int .u16 tc))]), (1000000000001, .row tEnt 84 t), (1000000000002, .row tI 3 ar), (1000000000003, .row tB 43 fs), (1000000000004, .row tB 43 fa), (1000000000005, .row Ty.bool 4 ff)]⟩))) (by kernel_rfl) ?_
  refine .rnd fun ⟨h1, h2, h3, h4, h5, h6⟩ => ?_
  have h1 : n = L.length := h1
  have h2 : n ≤ 1000000 := h2
  have h3 : 0 ≤ k := h3
  have h4 : k ≤ n := h4
  have h5 : idxIn t.length L = true := h5
  have h6 : n - k ≤ b.length := h6
  show Gives _ (.ret (Ex.ex 0, st57 (withTree ((iL, iN), (t, ar, c1, c2, c3), (fs, fa, ff), (tl, te, tc)) (setAt t (L.drop k.toNat) b)) (b.drop (n - k).toNat)))
  refine .lif (fun hk => ?_) (fun hk => ?_)
  · have e : (n - k).toNat = (n - (k + 1)).toNat + 1 := by omega
    have e' : (k + 1).toNat = k.toNat + 1 := by omega
    have hi := List.all_eq_true.1 h5 _ (List.getElem_mem (show k.toNat < L.length by omega))
    rw [show L[k.toNat]'(by omega) = L.getD k.toNat 0 by simp [List.getD_eq_getElem?_getD, List.getElem?_eq_getElem (show k.toNat < L.length by omega)]] at hi
    rw [drop_at L k.toNat 0 (by omega)]
    refine .lneed (inR_of h3 (by omega)) ?_
    refine .lnd (by omega) (.lneed (inR_of (by omega) (by omega)) ?_)
    generalize L.getD k.toNat 0 = x at hi ⊢
    have hi := of_decide_eq_true hi
    refine .lneed (inR_of hi.1 (by have := hi.2; omega)) (.lnd (by have := hi.2; have := hi.1; omega) (.lneed (by simp [okB]; omega) (.lnd (by omega) ?_)))
    rw [List.take_length]
    refine Gives.next (σ' := q57a.st (((), b.drop 1, (), n, k + 1, ge), (L, ((iL, iN, (), (), c1, c2, c3, (), (), (), tl, te, tc, ()), t.set x.toNat ((t.getD x.toNat (ByteArray.empty, false, 0)).1, (t.getD x.toNat (ByteArray.empty, false, 0)).2.1, IntKind.wrap .i64 (b.getD 0 0)), ar, fs, fa, ff, ())))) (by kernel_rfl) ((ih (((), b.drop 1, (), n, k + 1, ge), (L, ((iL, iN, (), (), c1, c2, c3, (), (), (), tl, te, tc, ()), t.set x.toNat ((t.getD x.toNat (ByteArray.empty, false, 0)).1, (t.getD x.toNat (ByteArray.empty, false, 0)).2.1, IntKind.wrap .i64 (b.getD 0 0)), ar, fs, fa, ff, ()))) (by simp only; omega)).trans ?_)
    refine .nd ⟨h1, h2, by show 0 ≤ k + 1; omega, by show k + 1 ≤ n; omega, by show idxIn (t.set _ _).length L = true; rw [List.length_set]; exact h5, by show n - (k + 1) ≤ ((b.drop 1).length : Int); rw [List.length_drop]; omega⟩ ?_
    show Gives (.ret (Ex.ex 0, st57 (withTree ((iL, iN), (t.set x.toNat _, ar, c1, c2, c3), (fs, fa, ff), (tl, te, tc)) (setAt (t.set x.toNat _) (L.drop (k + 1).toNat) (b.drop 1))) ((b.drop 1).drop (n - (k + 1)).toNat))) _
    rw [e', e, setAt, List.drop_drop, Nat.add_comm 1]
    exact .refl _
  · rw [List.drop_eq_nil_of_le (by omega), show (n - k).toNat = 0 by omega]
    exact .refl _
set_option maxHeartbeats 2000000 in
theorem lp57b_ok : SumOk 0 C57 [] lp57 (fn57.at 2) (sumP q57b R57b) := by
  refine .pat q57b R57b (fun v => (v.1.2.2.1 - v.1.2.2.2.1).toNat) ?_
  rintro ⟨⟨⟨⟩, (b : List Int), (n : Int), (k : Int), ge⟩, ob⟩ ih
  obtain ⟨⟨iL, iN, ⟨⟩, ⟨⟩, (c1 : Int), (c2 : Int), (c3 : Int), ⟨⟩, ⟨⟩, ⟨⟩, tl, te, tc, ⟨⟩⟩, (t : List Ent), (ar : List Int), fs, fa, ff, ⟨⟩⟩ := ob
  refine Gives.run (t' := .ite (decide (k < n)) (.need (inR k (List.length b)) (.need (inR k (List.length ar)) (.need (decide ((Int.toNat k) < (List.length ar))) (.need (decide (((-(9223372036854775808 : Int) : Int) ≤ (k + (1 : Int) : Int)) ∧ ((k + (1 : Int) : Int) ≤ (9223372036854775807 : Int)))) (.ret (.nx, ⟨90, [(0, .e (.c (.np 1000000000000 2))), (1, rL tU b), (74, rI n), (75, rI (k + (1 : Int) : Int)), (100000, .e (.c (.np 1000000000000 0))), (100001, .e (.c (.row 1000000000001))), (100002, .e (.c (.row 1000000000002))), (100003, .e (.c (.row 1000000000003))), (100004, .e (.c (.row 1000000000004))), (100005, .e (.c (.row 1000000000005)))], [(1000000000000, .cells 42 [.d (.sl tInst iL), .d (.sl Ty.str iN), .row 1000000000001, .row 1000000000002, .d (.v (.int .i64 c1)), .d (.v (.int .i64 c2)), .d (.v (.int .i64 c3)), .row 1000000000003, .row 1000000000004, .row 1000000000005, .d (.sl tEv tl), .d (.v (.int .i64 te)), .d (.v (.int .u16 tc))]), (1000000000001, .row tEnt 84 t), (1000000000002, .row tI 3 (List.set ar (Int.toNat k) (IntKind.wrap IntKind.i64 (List.getD b (Int.toNat k) (0 : Int))))), (1000000000003, .row tB 43 fs), (1000000000004, .row tB 43 fa), (1000000000005, .row Ty.bool 4 ff)]⟩)))))) (.ret (.ex 2, ⟨90, [(100000, .e (.c (.np 1000000000000 0))), (100001, .e (.c (.row 1000000000001))), (100002, .e (.c (.row 1000000000002))), (100003, .e (.c (.row 1000000000003))), (100004, .e (.c (.row 1000000000004))), (100005, .e (.c (.row 1000000000005)))], [(1000000000000, .cells 42 [.d (.sl tInst iL), .d (.sl Ty.str iN), .row 1000000000001, .row 1000000000002, .d (.v (.int .i64 c1)), .d (.v (.int .i64 c2)), .d (.v (.int .i64 c3)), .row 1000000000003, .row 1000000000004, .row 1000000000005, .d (.sl tEv tl), .d (.v (.int .i64 te)), .d (.v (.int .u16 tc))]), (1000000000001, .row tEnt 84 t), (1000000000002, .row tI 3 ar), (1000000000003, .row tB 43 fs), (1000000000004, .row tB 43 fa), (1000000000005, .row Ty.bool 4 ff)]⟩))) (by kernel_rfl) ?_
  refine .rnd fun ⟨h1, h2, h3, h4, h5⟩ => ?_
  have h1 : n = ar.length := h1
  have h2 : n ≤ 1000000 := h2
  have h3 : 0 ≤ k := h3
  have h4 : k ≤ n := h4
  have h5 : b.length = ar.length := h5
  show Gives _ (.ret (Ex.ex 2, (⟨90, ghC, obC (withArgs ((iL, iN), (t, ar, c1, c2, c3), (fs, fa, ff), (tl, te, tc)) (ar.take k.toNat ++ (b.drop k.toNat).map (IntKind.wrap .i64)))⟩ : St)))
  refine .lif (fun hk => ?_) (fun hk => ?_)
  · have e' : (k + 1).toNat = k.toNat + 1 := by omega
    refine .lneed (inR_of h3 (by omega)) (.lneed (inR_of h3 (by omega)) (.lnd (by omega) (.lnd (by omega) ?_)))
    refine Gives.next (σ' := q57b.st (((), b, n, k + 1, ge), ((iL, iN, (), (), c1, c2, c3, (), (), (), tl, te, tc, ()), t, ar.set k.toNat (IntKind.wrap .i64 (b.getD k.toNat 0)), fs, fa, ff, ()))) (by kernel_rfl) ((ih (((), b, n, k + 1, ge), ((iL, iN, (), (), c1, c2, c3, (), (), (), tl, te, tc, ()), t, ar.set k.toNat (IntKind.wrap .i64 (b.getD k.toNat 0)), fs, fa, ff, ())) (by simp only; omega)).trans ?_)
    refine .nd ⟨by show n = ((ar.set _ _).length : Int); rw [List.length_set]; exact h1, h2, by show 0 ≤ k + 1; omega, by show k + 1 ≤ n; omega, by show b.length = (ar.set _ _).length; rw [List.length_set]; exact h5⟩ ?_
    show Gives (.ret (Ex.ex 2, (⟨90, ghC, obC (withArgs ((iL, iN), (t, ar.set k.toNat (IntKind.wrap .i64 (b.getD k.toNat 0)), c1, c2, c3), (fs, fa, ff), (tl, te, tc)) ((ar.set k.toNat (IntKind.wrap .i64 (b.getD k.toNat 0))).take (k + 1).toNat ++ (b.drop (k + 1).toNat).map (IntKind.wrap .i64)))⟩ : St))) _
    rw [e', drop_at b k.toNat 0 (by omega), List.map_cons]
    have e2 : (ar.set k.toNat (IntKind.wrap .i64 (b.getD k.toNat 0))).take (k.toNat + 1) = ar.take k.toNat ++ [IntKind.wrap .i64 (b.getD k.toNat 0)] := by
      rw [List.take_add_one, List.take_set_of_le (Nat.le_refl _), List.getElem?_set_self (by omega)]; rfl
    rw [e2, List.append_assoc]
    exact .refl _
  · rw [show k.toNat = ar.length by omega, List.take_length, List.drop_eq_nil_of_le (by omega), List.map_nil, List.append_nil]
    exact .refl _
theorem lp57_ok : LpsOk 0 C57 [] lp57 fn57.loops := by
  refine .all (by kernel_rfl) ?_
  simp only [lp57, List.forall_mem_cons, List.not_mem_nil, false_imp_iff, implies_true, and_true]
  exact ⟨lp57a_ok, lp57b_ok⟩
def unkF (c : Cls) (b : List Int) : Bool × Cls :=
  if b.length < 4 then (false, c)
  else if (b.drop 4).length ≠ (filesK 0 c.1).length + c.2.1.length then (false, (c.1, c.2.1, IntKind.wrap .i64 (b.getD 0 0), IntKind.wrap .i64 (b.getD 1 0), num2 (b.getD 2 0) (b.getD 3 0)))
  else (true, (setAt c.1 (filesK 0 c.1) (b.drop 4), ((b.drop 4).drop (filesK 0 c.1).length).map (IntKind.wrap .i64), IntKind.wrap .i64 (b.getD 0 0), IntKind.wrap .i64 (b.getD 1 0), num2 (b.getD 2 0) (b.getD 3 0)))
def withCls (m : Img) (c : Cls) : Img := (m.1, c, m.2.2)
def unkL (a : Unit × List Int × Unit) (v : qC.V) : Tr (SV × St) := .need (decide ((imgO v.2).2.1.1.length ≤ 1000000 ∧ (imgO v.2).2.1.2.1.length ≤ 1000000)) (.ret (rB (unkF (imgO v.2).2.1 a.2.1).1, stC (withCls (imgO v.2) (unkF (imgO v.2).2.1 a.2.1).2)))
def unkCtr : Ctr := ctrL (two (aNp LB 2) (aVal tB)) qC unkL
def sC (m : Img) (b : List Int) (x : List (Nat × SV)) : St := ⟨90, [(0, .e (.c (.np LB 2))), (1, rL tU b)] ++ x ++ ghC, obC m⟩
set_option maxHeartbeats 4000000 in
theorem unk_ok : CtrOk Tryz.prog 59 unkCtr := by
  refine .mkL C57_ok mixed (q := fn57) (.of Tryz.func59 (by kernel_rfl)) lp57_ok (by decide) ?_
  rintro ⟨⟨⟩, (b : List Int), ⟨⟩⟩ v
  rw [qC_st]
  show Gives _ (.need (decide ((imgO v.2).2.1.1.length ≤ 1000000 ∧ (imgO v.2).2.1.2.1.length ≤ 1000000)) (.ret (rB (unkF (imgO v.2).2.1 b).1, stC (withCls (imgO v.2) (unkF (imgO v.2).2.1 b).2))))
  generalize imgO v.2 = m
  obtain ⟨⟨iL, iN⟩, ⟨(t : List Ent), (ar : List Int), (c1 : Int), (c2 : Int), (c3 : Int)⟩, ⟨fs, fa, ff⟩, ⟨tl, te, tc⟩⟩ := m
  refine .rnd fun ⟨h1, h2⟩ => ?_
  have h1 : t.length ≤ 1000000 := h1
  have h2 : ar.length ≤ 1000000 := h2
  refine Gives.seq (by kernel_rfl) ?_
  refine Gives.run (t' := .ret (.nx, ⟨90, [(0, .e (.c (.np 1000000000000 2))), (1, rL tU b), (100000, .e (.c (.np 1000000000000 0))), (100001, .e (.c (.row 1000000000001))), (100002, .e (.c (.row 1000000000002))), (100003, .e (.c (.row 1000000000003))), (100004, .e (.c (.row 1000000000004))), (100005, .e (.c (.row 1000000000005)))], [(1000000000000, .cells 42 [.d (.sl tInst iL), .d (.sl Ty.str iN), .row 1000000000001, .row 1000000000002, .d (.v (.int .i64 c1)), .d (.v (.int .i64 c2)), .d (.v (.int .i64 c3)), .row 1000000000003, .row 1000000000004, .row 1000000000005, .d (.sl tEv tl), .d (.v (.int .i64 te)), .d (.v (.int .u16 tc))]), (1000000000001, .row tEnt 84 t), (1000000000002, .row tI 3 ar), (1000000000003, .row tB 43 fs), (1000000000004, .row tB 43 fa), (1000000000005, .row Ty.bool 4 ff)]⟩)) (by kernel_rfl) ?_
  refine Gives.goto rfl (Gives.seq (by kernel_rfl) ?_)
  refine Gives.run (t' := .ite (decide ((((List.length b) : Nat) : Int) < (4 : Int))) (.ret (.rt, ⟨90, [(4, .e (.c (.kb false))), (100000, .e (.c (.np 1000000000000 0))), (100001, .e (.c (.row 1000000000001))), (100002, .e (.c (.row 1000000000002))), (100003, .e (.c (.row 1000000000003))), (100004, .e (.c (.row 1000000000004))), (100005, .e (.c (.row 1000000000005)))], [(1000000000000, .cells 42 [.d (.sl tInst iL), .d (.sl Ty.str iN), .row 1000000000001, .row 1000000000002, .d (.v (.int .i64 c1)), .d (.v (.int .i64 c2)), .d (.v (.int .i64 c3)), .row 1000000000003, .row 1000000000004, .row 1000000000005, .d (.sl tEv tl), .d (.v (.int .i64 te)), .d (.v (.int .u16 tc))]), (1000000000001, .row tEnt 84 t), (1000000000002, .row tI 3 ar), (1000000000003, .row tB 43 fs), (1000000000004, .row tB 43 fa), (1000000000005, .row Ty.bool 4 ff)]⟩)) (.ret (.nx, ⟨90, [(0, .e (.c (.np 1000000000000 2))), (1, rL tU b), (10, .e (.c (.kb false))), (100000, .e (.c (.np 1000000000000 0))), (100001, .e (.c (.row 1000000000001))), (100002, .e (.c (.row 1000000000002))), (100003, .e (.c (.row 1000000000003))), (100004, .e (.c (.row 1000000000004))), (100005, .e (.c (.row 1000000000005)))], [(1000000000000, .cells 42 [.d (.sl tInst iL), .d (.sl Ty.str iN), .row 1000000000001, .row 1000000000002, .d (.v (.int .i64 c1)), .d (.v (.int .i64 c2)), .d (.v (.int .i64 c3)), .row 1000000000003, .row 1000000000004, .row 1000000000005, .d (.sl tEv tl), .d (.v (.int .i64 te)), .d (.v (.int .u16 tc))]), (1000000000001, .row tEnt 84 t), (1000000000002, .row tI 3 ar), (1000000000003, .row tB 43 fs), (1000000000004, .row tB 43 fa), (1000000000005, .row Ty.bool 4 ff)]⟩))) (by kernel_rfl) ?_
  refine .lif (fun h4 => ?_) (fun h4 => ?_)
  · rw [show unkF (t, ar, c1, c2, c3) b = (false, (t, ar, c1, c2, c3)) from if_pos (by omega)]
    exact Gives.of_eq (t' := .ret (rB false, stC ((iL, iN), (t, ar, c1, c2, c3), (fs, fa, ff), (tl, te, tc)))) (by kernel_rfl) (.refl _)
  have h24 : 2 ≤ ((b.take b.length).drop 2).length := by rw [List.take_length, List.length_drop]; omega
  refine Gives.goto rfl (Gives.seq (by kernel_rfl) ?_)
  refine Gives.run (t' := .need (inR (0 : Int) (List.length b)) (.need (inR (1 : Int) (List.length b)) (.need (okB (2 : Int) (((List.length b) : Nat) : Int) (List.length b)) (.need (decide (2 ≤ (List.length (List.drop 2 (List.take (List.length b) b))))) (.need (inR (0 : Int) (List.length b)) (.need (inR (1 : Int) (List.length b)) (.need (okB (2 : Int) (((List.length b) : Nat) : Int) (List.length b)) (.need (decide (2 ≤ (List.length (List.drop 2 (List.take (List.length b) b))))) (.need (decide ((List.length t) = (List.length t))) (.need (decide ((List.length ar) = (List.length ar))) (.need (decide ((List.length fs) = (List.length fs))) (.need (decide ((List.length fa) = (List.length fa))) (.need (decide ((List.length ff) = (List.length ff))) (.need (decide ((List.length t) = (List.length t))) (.need (decide ((List.length ar) = (List.length ar))) (.need (decide ((List.length fs) = (List.length fs))) (.need (decide ((List.length fa) = (List.length fa))) (.need (decide ((List.length ff) = (List.length ff))) (.need (decide ((List.length t) = (List.length t))) (.need (decide ((List.length ar) = (List.length ar))) (.need (decide ((List.length fs) = (List.length fs))) (.need (decide ((List.length fa) = (List.length fa))) (.need (decide ((List.length ff) = (List.length ff))) (.need (decide ((List.length t) = (List.length t))) (.need (decide ((List.length ar) = (List.length ar))) (.need (decide ((List.length fs) = (List.length fs))) (.need (decide ((List.length fa) = (List.length fa))) (.need (decide ((List.length ff) = (List.length ff))) (.ret (.nx, ⟨90, [(0, .e (.c (.np 1000000000000 2))), (1, rL tU b), (100000, .e (.c (.np 1000000000000 0))), (100001, .e (.c (.row 1000000000001))), (100002, .e (.c (.row 1000000000002))), (100003, .e (.c (.row 1000000000003))), (100004, .e (.c (.row 1000000000004))), (100005, .e (.c (.row 1000000000005)))], [(1000000000000, .cells 42 [.d (.sl tInst iL), .d (.sl Ty.str iN), .row 1000000000001, .row 1000000000002, .d (.v (.int .i64 (IntKind.wrap IntKind.i64 (List.getD b 0 (0 : Int))))), .d (.v (.int .i64 (IntKind.wrap IntKind.i64 (List.getD b 1 (0 : Int))))), .d (.v (.int .i64 (num2 (List.getD (List.drop 2 (List.take (List.length b) b)) 0 (0 : Int)) (List.getD (List.drop 2 (List.take (List.length b) b)) 1 (0 : Int))))), .row 1000000000003, .row 1000000000004, .row 1000000000005, .d (.sl tEv tl), .d (.v (.int .i64 te)), .d (.v (.int .u16 tc))]), (1000000000001, .row tEnt 84 t), (1000000000002, .row tI 3 ar), (1000000000003, .row tB 43 fs), (1000000000004, .row tB 43 fa), (1000000000005, .row Ty.bool 4 ff)]⟩)))))))))))))))))))))))))))))) (by kernel_rfl) ?_
  repeat' first | with_reducible refine Gives.lneed (b := true) rfl ?_ | with_reducible refine Gives.lnd h24 ?_ | (with_reducible refine Gives.lnd ?_ ?_; focus omega) | with_reducible refine Gives.lneed (inR_of (k := 0) (by omega) (by omega)) ?_ | with_reducible refine Gives.lneed (inR_of (k := 1) (by omega) (by omega)) ?_ | (with_reducible refine Gives.lneed (b := okB _ _ _) ?_ ?_; focus (simp [okB]; omega))
  refine Gives.goto (σ' := sC ((iL, iN), (t, ar, IntKind.wrap .i64 (b.getD 0 0), IntKind.wrap .i64 (b.getD 1 0), num2 (b.getD 2 0) (b.getD 3 0)), (fs, fa, ff), (tl, te, tc)) b []) (by simp only [List.take_length, getD_drop]; rfl) ?_
  generalize hx1 : IntKind.wrap .i64 (b.getD 0 0) = x1
  generalize hx2 : IntKind.wrap .i64 (b.getD 1 0) = x2
  generalize hx3 : num2 (b.getD 2 0) (b.getD 3 0) = x3
  refine Gives.seq (by kernel_rfl) ?_
  refine Gives.run (t' := .need (okB (4 : Int) (((List.length b) : Nat) : Int) (List.length b)) (.ret (.nx, ⟨90, [(0, .e (.c (.np 1000000000000 2))), (1, rL tU (List.drop 4 (List.take (List.length b) b))), (100000, .e (.c (.np 1000000000000 0))), (100001, .e (.c (.row 1000000000001))), (100002, .e (.c (.row 1000000000002))), (100003, .e (.c (.row 1000000000003))), (100004, .e (.c (.row 1000000000004))), (100005, .e (.c (.row 1000000000005)))], [(1000000000000, .cells 42 [.d (.sl tInst iL), .d (.sl Ty.str iN), .row 1000000000001, .row 1000000000002, .d (.v (.int .i64 x1)), .d (.v (.int .i64 x2)), .d (.v (.int .i64 x3)), .row 1000000000003, .row 1000000000004, .row 1000000000005, .d (.sl tEv tl), .d (.v (.int .i64 te)), .d (.v (.int .u16 tc))]), (1000000000001, .row tEnt 84 t), (1000000000002, .row tI 3 ar), (1000000000003, .row tB 43 fs), (1000000000004, .row tB 43 fa), (1000000000005, .row Ty.bool 4 ff)]⟩))) (by kernel_rfl) ?_
  refine .lneed (by simp [okB]; omega) ?_
  refine Gives.goto (σ' := sC ((iL, iN), (t, ar, x1, x2, x3), (fs, fa, ff), (tl, te, tc)) (b.drop 4) []) (by rw [List.take_length]; rfl) ?_
  have hu : unkF (t, ar, c1, c2, c3) b = if (b.drop 4).length ≠ (filesK 0 t).length + ar.length then (false, (t, ar, x1, x2, x3)) else (true, (setAt t (filesK 0 t) (b.drop 4), ((b.drop 4).drop (filesK 0 t).length).map (IntKind.wrap .i64), x1, x2, x3)) := by
    rw [← hx1, ← hx2, ← hx3]; exact if_neg (by omega)
  rw [hu]
  clear hu hx1 hx2 hx3
  generalize b.drop 4 = r
  have hfl := filesK_len t 0
  refine Gives.seq (by kernel_rfl) ?_
  refine Gives.run (t' := .need true (.need (decide ((List.length t) ≤ 1000000)) (.need (decide (((-(9223372036854775808 : Int) : Int) ≤ ((((List.length (filesK (0 : Int) t)) : Nat) : Int) + (((List.length ar) : Nat) : Int) : Int)) ∧ (((((List.length (filesK (0 : Int) t)) : Nat) : Int) + (((List.length ar) : Nat) : Int) : Int) ≤ (9223372036854775807 : Int)))) (.need true (.need (decide ((List.length t) ≤ 1000000)) (.need (decide (((-(9223372036854775808 : Int) : Int) ≤ ((((List.length (filesK (0 : Int) t)) : Nat) : Int) + (((List.length ar) : Nat) : Int) : Int)) ∧ (((((List.length (filesK (0 : Int) t)) : Nat) : Int) + (((List.length ar) : Nat) : Int) : Int) ≤ (9223372036854775807 : Int)))) (.need (decide ((List.length t) = (List.length t))) (.need (decide ((List.length ar) = (List.length ar))) (.need (decide ((List.length fs) = (List.length fs))) (.need (decide ((List.length fa) = (List.length fa))) (.need (decide ((List.length ff) = (List.length ff))) (.need (decide ((List.length t) = (List.length t))) (.need (decide ((List.length ar) = (List.length ar))) (.need (decide ((List.length fs) = (List.length fs))) (.need (decide ((List.length fa) = (List.length fa))) (.need (decide ((List.length ff) = (List.length ff))) (.ite ((((List.length r) : Nat) : Int) != ((((List.length (filesK (0 : Int) t)) : Nat) : Int) + (((List.length ar) : Nat) : Int) : Int)) (.ret (.rt, ⟨90, [(4, .e (.c (.kb false))), (100000, .e (.c (.np 1000000000000 0))), (100001, .e (.c (.row 1000000000001))), (100002, .e (.c (.row 1000000000002))), (100003, .e (.c (.row 1000000000003))), (100004, .e (.c (.row 1000000000004))), (100005, .e (.c (.row 1000000000005)))], [(1000000000000, .cells 42 [.d (.sl tInst iL), .d (.sl Ty.str iN), .row 1000000000001, .row 1000000000002, .d (.v (.int .i64 x1)), .d (.v (.int .i64 x2)), .d (.v (.int .i64 x3)), .row 1000000000003, .row 1000000000004, .row 1000000000005, .d (.sl tEv tl), .d (.v (.int .i64 te)), .d (.v (.int .u16 tc))]), (1000000000001, .row tEnt 84 t), (1000000000002, .row tI 3 ar), (1000000000003, .row tB 43 fs), (1000000000004, .row tB 43 fa), (1000000000005, .row Ty.bool 4 ff)]⟩)) (.ret (.nx, ⟨90, [(0, .e (.c (.np 1000000000000 2))), (1, rL tU r), (46, .e (.c (.kb false))), (100000, .e (.c (.np 1000000000000 0))), (100001, .e (.c (.row 1000000000001))), (100002, .e (.c (.row 1000000000002))), (100003, .e (.c (.row 1000000000003))), (100004, .e (.c (.row 1000000000004))), (100005, .e (.c (.row 1000000000005)))], [(4038, .row tI 3 (filesK (0 : Int) t)), (1000000000000, .cells 42 [.d (.sl tInst iL), .d (.sl Ty.str iN), .row 1000000000001, .row 1000000000002, .d (.v (.int .i64 x1)), .d (.v (.int .i64 x2)), .d (.v (.int .i64 x3)), .row 1000000000003, .row 1000000000004, .row 1000000000005, .d (.sl tEv tl), .d (.v (.int .i64 te)), .d (.v (.int .u16 tc))]), (1000000000001, .row tEnt 84 t), (1000000000002, .row tI 3 ar), (1000000000003, .row tB 43 fs), (1000000000004, .row tB 43 fa), (1000000000005, .row Ty.bool 4 ff)]⟩))))))))))))))))))) (by kernel_rfl) ?_
  repeat' first | with_reducible refine Gives.lneed (b := true) rfl ?_ | (with_reducible refine Gives.lnd ?_ ?_; focus omega)
  refine .lite (fun h5 => ?_) (fun h5 => ?_)
  · rw [if_pos (by have := bne_iff_ne.1 h5; omega)]
    exact Gives.of_eq (t' := .ret (rB false, stC ((iL, iN), (t, ar, x1, x2, x3), (fs, fa, ff), (tl, te, tc)))) (by kernel_rfl) (.refl _)
  have h5 : r.length = (filesK 0 t).length + ar.length := by have := bne_eq_false_iff_eq.1 h5; omega
  rw [if_neg (by omega)]
  refine Gives.goto rfl (Gives.seq (by kernel_rfl) ?_)
  have hi : idxIn t.length (filesK 0 t) = true := List.all_eq_true.2 fun i hi => decide_eq_true (by have := filesK_at t 0 (by omega) i hi; omega)
  refine Gives.run (t' := .need true (.need (decide ((List.length t) ≤ 1000000)) (.need (decide (((((List.length (filesK (0 : Int) t)) : Nat) : Int) = (((List.length (filesK (0 : Int) t)) : Nat) : Int)) ∧ (((((List.length (filesK (0 : Int) t)) : Nat) : Int) ≤ (1000000 : Int)) ∧ (((0 : Int) ≤ (0 : Int)) ∧ (((0 : Int) ≤ (((List.length (filesK (0 : Int) t)) : Nat) : Int)) ∧ (((idxIn (List.length t) (filesK (0 : Int) t)) = true) ∧ (((((List.length (filesK (0 : Int) t)) : Nat) : Int) - (0 : Int) : Int) ≤ (((List.length r) : Nat) : Int)))))))) (.ret (.nx, ⟨90, [(0, .e (.c (.np 1000000000000 2))), (1, rL tU (List.drop (Int.toNat ((((List.length (filesK (0 : Int) t)) : Nat) : Int) - (0 : Int) : Int)) r)), (100000, .e (.c (.np 1000000000000 0))), (100001, .e (.c (.row 1000000000001))), (100002, .e (.c (.row 1000000000002))), (100003, .e (.c (.row 1000000000003))), (100004, .e (.c (.row 1000000000004))), (100005, .e (.c (.row 1000000000005)))], [(1000000000000, .cells 42 [.d (.sl tInst (((withTree (imgO ((iL, (iN, (Unit.unit, (Unit.unit, (x1, (x2, (x3, (Unit.unit, (Unit.unit, (Unit.unit, (tl, (te, (tc, Unit.unit))))))))))))), (t, (ar, (fs, (fa, (ff, Unit.unit))))))) (setAt t (List.drop 0 (filesK (0 : Int) t)) r))).1).1), .d (.sl Ty.str (((withTree (imgO ((iL, (iN, (Unit.unit, (Unit.unit, (x1, (x2, (x3, (Unit.unit, (Unit.unit, (Unit.unit, (tl, (te, (tc, Unit.unit))))))))))))), (t, (ar, (fs, (fa, (ff, Unit.unit))))))) (setAt t (List.drop 0 (filesK (0 : Int) t)) r))).1).2), .row 1000000000001, .row 1000000000002, .d (.v (.int .i64 ((((((withTree (imgO ((iL, (iN, (Unit.unit, (Unit.unit, (x1, (x2, (x3, (Unit.unit, (Unit.unit, (Unit.unit, (tl, (te, (tc, Unit.unit))))))))))))), (t, (ar, (fs, (fa, (ff, Unit.unit))))))) (setAt t (List.drop 0 (filesK (0 : Int) t)) r))).2).1).2).2).1)), .d (.v (.int .i64 (((((((withTree (imgO ((iL, (iN, (Unit.unit, (Unit.unit, (x1, (x2, (x3, (Unit.unit, (Unit.unit, (Unit.unit, (tl, (te, (tc, Unit.unit))))))))))))), (t, (ar, (fs, (fa, (ff, Unit.unit))))))) (setAt t (List.drop 0 (filesK (0 : Int) t)) r))).2).1).2).2).2).1)), .d (.v (.int .i64 (((((((withTree (imgO ((iL, (iN, (Unit.unit, (Unit.unit, (x1, (x2, (x3, (Unit.unit, (Unit.unit, (Unit.unit, (tl, (te, (tc, Unit.unit))))))))))))), (t, (ar, (fs, (fa, (ff, Unit.unit))))))) (setAt t (List.drop 0 (filesK (0 : Int) t)) r))).2).1).2).2).2).2)), .row 1000000000003, .row 1000000000004, .row 1000000000005, .d (.sl tEv (((((withTree (imgO ((iL, (iN, (Unit.unit, (Unit.unit, (x1, (x2, (x3, (Unit.unit, (Unit.unit, (Unit.unit, (tl, (te, (tc, Unit.unit))))))))))))), (t, (ar, (fs, (fa, (ff, Unit.unit))))))) (setAt t (List.drop 0 (filesK (0 : Int) t)) r))).2).2).2).1), .d (.v (.int .i64 ((((((withTree (imgO ((iL, (iN, (Unit.unit, (Unit.unit, (x1, (x2, (x3, (Unit.unit, (Unit.unit, (Unit.unit, (tl, (te, (tc, Unit.unit))))))))))))), (t, (ar, (fs, (fa, (ff, Unit.unit))))))) (setAt t (List.drop 0 (filesK (0 : Int) t)) r))).2).2).2).2).1)), .d (.v (.int .u16 ((((((withTree (imgO ((iL, (iN, (Unit.unit, (Unit.unit, (x1, (x2, (x3, (Unit.unit, (Unit.unit, (Unit.unit, (tl, (te, (tc, Unit.unit))))))))))))), (t, (ar, (fs, (fa, (ff, Unit.unit))))))) (setAt t (List.drop 0 (filesK (0 : Int) t)) r))).2).2).2).2).2))]), (1000000000001, .row tEnt 84 ((((withTree (imgO ((iL, (iN, (Unit.unit, (Unit.unit, (x1, (x2, (x3, (Unit.unit, (Unit.unit, (Unit.unit, (tl, (te, (tc, Unit.unit))))))))))))), (t, (ar, (fs, (fa, (ff, Unit.unit))))))) (setAt t (List.drop 0 (filesK (0 : Int) t)) r))).2).1).1), (1000000000002, .row tI 3 (((((withTree (imgO ((iL, (iN, (Unit.unit, (Unit.unit, (x1, (x2, (x3, (Unit.unit, (Unit.unit, (Unit.unit, (tl, (te, (tc, Unit.unit))))))))))))), (t, (ar, (fs, (fa, (ff, Unit.unit))))))) (setAt t (List.drop 0 (filesK (0 : Int) t)) r))).2).1).2).1), (1000000000003, .row tB 43 (((((withTree (imgO ((iL, (iN, (Unit.unit, (Unit.unit, (x1, (x2, (x3, (Unit.unit, (Unit.unit, (Unit.unit, (tl, (te, (tc, Unit.unit))))))))))))), (t, (ar, (fs, (fa, (ff, Unit.unit))))))) (setAt t (List.drop 0 (filesK (0 : Int) t)) r))).2).2).1).1), (1000000000004, .row tB 43 ((((((withTree (imgO ((iL, (iN, (Unit.unit, (Unit.unit, (x1, (x2, (x3, (Unit.unit, (Unit.unit, (Unit.unit, (tl, (te, (tc, Unit.unit))))))))))))), (t, (ar, (fs, (fa, (ff, Unit.unit))))))) (setAt t (List.drop 0 (filesK (0 : Int) t)) r))).2).2).1).2).1), (1000000000005, .row Ty.bool 4 ((((((withTree (imgO ((iL, (iN, (Unit.unit, (Unit.unit, (x1, (x2, (x3, (Unit.unit, (Unit.unit, (Unit.unit, (tl, (te, (tc, Unit.unit))))))))))))), (t, (ar, (fs, (fa, (ff, Unit.unit))))))) (setAt t (List.drop 0 (filesK (0 : Int) t)) r))).2).2).1).2).2)]⟩))))) (by kernel_rfl) ?_
  refine .lneed rfl (.lnd h1 (.lnd ⟨rfl, by omega, by omega, by omega, hi, by omega⟩ ?_))
  have e0 : (((filesK 0 t).length : Int) - 0).toNat = (filesK 0 t).length := by omega
  refine Gives.goto (σ' := sC ((iL, iN), (setAt t (filesK 0 t) r, ar, x1, x2, x3), (fs, fa, ff), (tl, te, tc)) (r.drop (filesK 0 t).length) []) (by rw [e0]; rfl) ?_
  have hr2 : (r.drop (filesK 0 t).length).length = ar.length := by rw [List.length_drop]; omega
  generalize setAt t (filesK 0 t) r = t2
  generalize r.drop (filesK 0 t).length = r2 at hr2 ⊢
  refine Gives.seq (by kernel_rfl) ?_
  refine Gives.run (t' := .need (decide (((((List.length ar) : Nat) : Int) = (((List.length ar) : Nat) : Int)) ∧ (((((List.length ar) : Nat) : Int) ≤ (1000000 : Int)) ∧ (((0 : Int) ≤ (0 : Int)) ∧ (((0 : Int) ≤ (((List.length ar) : Nat) : Int)) ∧ ((List.length r2) = (List.length ar))))))) (.ret (.nx, ⟨90, [(100000, .e (.c (.np 1000000000000 0))), (100001, .e (.c (.row 1000000000001))), (100002, .e (.c (.row 1000000000002))), (100003, .e (.c (.row 1000000000003))), (100004, .e (.c (.row 1000000000004))), (100005, .e (.c (.row 1000000000005)))], [(1000000000000, .cells 42 [.d (.sl tInst (((withArgs (imgO ((iL, (iN, (Unit.unit, (Unit.unit, (x1, (x2, (x3, (Unit.unit, (Unit.unit, (Unit.unit, (tl, (te, (tc, Unit.unit))))))))))))), (t2, (ar, (fs, (fa, (ff, Unit.unit))))))) ((List.take 0 ar) ++ (List.map (IntKind.wrap IntKind.i64) (List.drop 0 r2))))).1).1), .d (.sl Ty.str (((withArgs (imgO ((iL, (iN, (Unit.unit, (Unit.unit, (x1, (x2, (x3, (Unit.unit, (Unit.unit, (Unit.unit, (tl, (te, (tc, Unit.unit))))))))))))), (t2, (ar, (fs, (fa, (ff, Unit.unit))))))) ((List.take 0 ar) ++ (List.map (IntKind.wrap IntKind.i64) (List.drop 0 r2))))).1).2), .row 1000000000001, .row 1000000000002, .d (.v (.int .i64 ((((((withArgs (imgO ((iL, (iN, (Unit.unit, (Unit.unit, (x1, (x2, (x3, (Unit.unit, (Unit.unit, (Unit.unit, (tl, (te, (tc, Unit.unit))))))))))))), (t2, (ar, (fs, (fa, (ff, Unit.unit))))))) ((List.take 0 ar) ++ (List.map (IntKind.wrap IntKind.i64) (List.drop 0 r2))))).2).1).2).2).1)), .d (.v (.int .i64 (((((((withArgs (imgO ((iL, (iN, (Unit.unit, (Unit.unit, (x1, (x2, (x3, (Unit.unit, (Unit.unit, (Unit.unit, (tl, (te, (tc, Unit.unit))))))))))))), (t2, (ar, (fs, (fa, (ff, Unit.unit))))))) ((List.take 0 ar) ++ (List.map (IntKind.wrap IntKind.i64) (List.drop 0 r2))))).2).1).2).2).2).1)), .d (.v (.int .i64 (((((((withArgs (imgO ((iL, (iN, (Unit.unit, (Unit.unit, (x1, (x2, (x3, (Unit.unit, (Unit.unit, (Unit.unit, (tl, (te, (tc, Unit.unit))))))))))))), (t2, (ar, (fs, (fa, (ff, Unit.unit))))))) ((List.take 0 ar) ++ (List.map (IntKind.wrap IntKind.i64) (List.drop 0 r2))))).2).1).2).2).2).2)), .row 1000000000003, .row 1000000000004, .row 1000000000005, .d (.sl tEv (((((withArgs (imgO ((iL, (iN, (Unit.unit, (Unit.unit, (x1, (x2, (x3, (Unit.unit, (Unit.unit, (Unit.unit, (tl, (te, (tc, Unit.unit))))))))))))), (t2, (ar, (fs, (fa, (ff, Unit.unit))))))) ((List.take 0 ar) ++ (List.map (IntKind.wrap IntKind.i64) (List.drop 0 r2))))).2).2).2).1), .d (.v (.int .i64 ((((((withArgs (imgO ((iL, (iN, (Unit.unit, (Unit.unit, (x1, (x2, (x3, (Unit.unit, (Unit.unit, (Unit.unit, (tl, (te, (tc, Unit.unit))))))))))))), (t2, (ar, (fs, (fa, (ff, Unit.unit))))))) ((List.take 0 ar) ++ (List.map (IntKind.wrap IntKind.i64) (List.drop 0 r2))))).2).2).2).2).1)), .d (.v (.int .u16 ((((((withArgs (imgO ((iL, (iN, (Unit.unit, (Unit.unit, (x1, (x2, (x3, (Unit.unit, (Unit.unit, (Unit.unit, (tl, (te, (tc, Unit.unit))))))))))))), (t2, (ar, (fs, (fa, (ff, Unit.unit))))))) ((List.take 0 ar) ++ (List.map (IntKind.wrap IntKind.i64) (List.drop 0 r2))))).2).2).2).2).2))]), (1000000000001, .row tEnt 84 ((((withArgs (imgO ((iL, (iN, (Unit.unit, (Unit.unit, (x1, (x2, (x3, (Unit.unit, (Unit.unit, (Unit.unit, (tl, (te, (tc, Unit.unit))))))))))))), (t2, (ar, (fs, (fa, (ff, Unit.unit))))))) ((List.take 0 ar) ++ (List.map (IntKind.wrap IntKind.i64) (List.drop 0 r2))))).2).1).1), (1000000000002, .row tI 3 (((((withArgs (imgO ((iL, (iN, (Unit.unit, (Unit.unit, (x1, (x2, (x3, (Unit.unit, (Unit.unit, (Unit.unit, (tl, (te, (tc, Unit.unit))))))))))))), (t2, (ar, (fs, (fa, (ff, Unit.unit))))))) ((List.take 0 ar) ++ (List.map (IntKind.wrap IntKind.i64) (List.drop 0 r2))))).2).1).2).1), (1000000000003, .row tB 43 (((((withArgs (imgO ((iL, (iN, (Unit.unit, (Unit.unit, (x1, (x2, (x3, (Unit.unit, (Unit.unit, (Unit.unit, (tl, (te, (tc, Unit.unit))))))))))))), (t2, (ar, (fs, (fa, (ff, Unit.unit))))))) ((List.take 0 ar) ++ (List.map (IntKind.wrap IntKind.i64) (List.drop 0 r2))))).2).2).1).1), (1000000000004, .row tB 43 ((((((withArgs (imgO ((iL, (iN, (Unit.unit, (Unit.unit, (x1, (x2, (x3, (Unit.unit, (Unit.unit, (Unit.unit, (tl, (te, (tc, Unit.unit))))))))))))), (t2, (ar, (fs, (fa, (ff, Unit.unit))))))) ((List.take 0 ar) ++ (List.map (IntKind.wrap IntKind.i64) (List.drop 0 r2))))).2).2).1).2).1), (1000000000005, .row Ty.bool 4 ((((((withArgs (imgO ((iL, (iN, (Unit.unit, (Unit.unit, (x1, (x2, (x3, (Unit.unit, (Unit.unit, (Unit.unit, (tl, (te, (tc, Unit.unit))))))))))))), (t2, (ar, (fs, (fa, (ff, Unit.unit))))))) ((List.take 0 ar) ++ (List.map (IntKind.wrap IntKind.i64) (List.drop 0 r2))))).2).2).1).2).2)]⟩))) (by kernel_rfl) ?_
  refine .lnd ⟨by omega, by omega, by omega, by omega, hr2⟩ (Gives.goto rfl ?_)
  exact Gives.of_eq (t' := .ret (rB true, stC ((iL, iN), (t2, r2.map (IntKind.wrap .i64), x1, x2, x3), (fs, fa, ff), (tl, te, tc)))) (by kernel_rfl) (.refl _)
end Go.Proofs.YtjebfbkigkjboaaGreatDoor.Sy

/- Contracts: image.made. -/
set_option maxRecDepth 100000
namespace Go.Proofs.YtjebfbkigkjboaaGreatDoor.Sy
open Go.RowKit Kit Go.Proofs
abbrev Acc : Type := List Ent × List Int × List (List Int) × List (List Int)
def addF (a : Acc) (f : File) : Acc :=
  if (cutP f.1 (bs "tree/")).2 then
    if f.2.1 then (a.1 ++ [((cutP f.1 (bs "tree/")).1, true, 0)], a.2.1, a.2.2.1, a.2.2.2)
    else (a.1 ++ [((cutP f.1 (bs "tree/")).1, false, 0)], a.2.1, a.2.2.1 ++ [f.2.2], a.2.2.2)
  else (a.1, a.2.1 ++ [0], a.2.2.1, a.2.2.2 ++ [f.2.2])
noncomputable def fn30 := mkFn Tryz.f33
noncomputable def C30 : Cx := ⟨T, FL, [(56, pReadCtr), (57, cutPCtr), (58, untrCtr)], [(59, unkCtr)], [FA]⟩
theorem C30_ok : CxOk Tryz.prog C30 := ⟨T_ok, FL_ok, .cons pRead_ok (.cons cutP_ok (.cons untr_ok (.nil _))), .cons unk_ok (.nil _)⟩
abbrev CB4 : Nat := 1000004000
def nr30 : List NR := [⟨CB4 + 2, tEnt, 84⟩, ⟨CB4 + 3, tI, 3⟩, ⟨CB4 + 7, tB, 43⟩, ⟨CB4 + 8, tB, 43⟩, ⟨CB4 + 9, .bool, 4⟩]
def q30a : Frm := ⟨143, [(0, .dat (.sl tFile)), (2, .np 2 0), (4, .np 4 0), (36, .dat (.sl tFile)), (37, .dat tI), (38, .dat tI)],
  [(2, .cells 42 [.nil, .nil, .nil, .nil, .dat tI, .dat tI, .dat tI, .nil, .nil, .nil, .nil, .dat tI, .dat (.int .u16)]),
   (4, .cells 42 [.dat (.sl tInst), .dat (.sl .str), .row (CB4 + 2), .row (CB4 + 3), .dat tI, .dat tI, .dat tI, .row (CB4 + 7), .row (CB4 + 8), .row (CB4 + 9), .nil, .dat tI, .dat (.int .u16)]),
   (CB4 + 2, .row tEnt 84), (CB4 + 3, .row tI 3), (CB4 + 7, .row tB 43), (CB4 + 8, .row tB 43), (CB4 + 9, .row .bool 4)]⟩
def q30x : Frm := ⟨143, [(0, .dat (.sl tFile)), (2, .np 2 0), (4, .np 4 0)],
  [(2, .cells 42 [.nil, .nil, .nil, .nil, .dat tI, .dat tI, .dat tI, .nil, .nil, .nil, .nil, .dat tI, .dat (.int .u16)]),
   (4, .cells 42 [.dat (.sl tInst), .dat (.sl .str), .row (CB4 + 2), .row (CB4 + 3), .dat tI, .dat tI, .dat tI, .row (CB4 + 7), .row (CB4 + 8), .row (CB4 + 9), .nil, .dat tI, .dat (.int .u16)]),
   (CB4 + 2, .row tEnt 84), (CB4 + 3, .row tI 3), (CB4 + 7, .row tB 43), (CB4 + 8, .row tB 43), (CB4 + 9, .row .bool 4)]⟩
def accOf (o : obV q30a.os) : Acc := (o.2.2.1, o.2.2.2.1, o.2.2.2.2.1, o.2.2.2.2.2.1)
def putAcc (o : obV q30a.os) (a : Acc) : obV q30x.os := (o.1, o.2.1, a.1, a.2.1, a.2.2.1, a.2.2.2, o.2.2.2.2.2.2.1, ())
def accLe (a : Acc) (k : Int) : Prop := (a.1.length : Int) ≤ k ∧ (a.2.1.length : Int) ≤ k ∧ (a.2.2.1.length : Int) ≤ k ∧ (a.2.2.2.length : Int) ≤ k
instance (a : Acc) (k : Int) : Decidable (accLe a k) := by unfold accLe; exact inferInstance
def R30a : q30a.V → Tr (Ex × St) := fun v =>
  .need (decide (v.1.2.2.2.2.1 = v.1.2.2.2.1.length ∧ v.1.2.2.2.2.1 ≤ 1000000 ∧ 0 ≤ v.1.2.2.2.2.2.1 ∧ v.1.2.2.2.2.2.1 ≤ v.1.2.2.2.2.1 ∧ accLe (accOf v.2) v.1.2.2.2.2.2.1 ∧ (v.1.2.2.2.1.all fun f : File => decide (f.1.size ≤ 1000000000)) = true))
    (.ret (.ex 0, q30x.st ((v.1.1, (), (), ()), putAcc v.2 ((v.1.2.2.2.1.drop v.1.2.2.2.2.2.1.toNat).foldl addF (accOf v.2)))))
def q30b : Frm := ⟨143, [(0, .dat (.sl tFile)), (2, .np 2 0), (4, .np 4 0), (106, .dat tB), (107, .dat tI), (108, .dat tI)],
  [(2, .cells 42 [.nil, .nil, .nil, .nil, .dat tI, .dat tI, .dat tI, .nil, .nil, .nil, .nil, .dat tI, .dat (.int .u16)]),
   (4, .cells 42 [.dat (.sl tInst), .dat (.sl .str), .row (CB4 + 2), .row (CB4 + 3), .dat tI, .dat tI, .dat tI, .row (CB4 + 7), .row (CB4 + 8), .row (CB4 + 9), .nil, .dat tI, .dat (.int .u16)]),
   (CB4 + 2, .row tEnt 84), (CB4 + 3, .row tI 3), (CB4 + 7, .row tB 43), (CB4 + 8, .row tB 43), (CB4 + 9, .row .bool 4)]⟩
def putFl (o : obV q30b.os) (l : List Bool) : obV q30x.os := (o.1, o.2.1, o.2.2.1, o.2.2.2.1, o.2.2.2.2.1, o.2.2.2.2.2.1, l, ())
def R30b : q30b.V → Tr (Ex × St) := fun v =>
  .need (decide (v.1.2.2.2.2.1 = v.1.2.2.2.1.length ∧ v.1.2.2.2.2.1 ≤ 1000000000 ∧ 0 ≤ v.1.2.2.2.2.2.1 ∧ v.1.2.2.2.2.2.1 ≤ v.1.2.2.2.2.1 ∧ (v.2.2.2.2.2.2.2.1.length : Int) ≤ v.1.2.2.2.2.2.1))
    (.ret (.ex 3, q30x.st ((v.1.1, (), (), ()), putFl v.2 (v.2.2.2.2.2.2.2.1 ++ (v.1.2.2.2.1.drop v.1.2.2.2.2.2.1.toNat).map fun x : Int => x == 1))))
noncomputable def lp30 : LP := [(0, sumP q30a R30a), (3, sumP q30b R30b)]
set_option maxHeartbeats 4000000 in
theorem lp30a_ok : SumOk 0 C30 nr30 lp30 (fn30.at 0) (sumP q30a R30a) := by
  refine .pat q30a R30a (fun v => (v.1.2.2.2.2.1 - v.1.2.2.2.2.2.1).toNat) ?_
  rintro ⟨⟨(l : List File), ⟨⟩, ⟨⟩, (L : List File), (n : Int), (k : Int), ⟨⟩⟩, ⟨zz, ⟨iL, iN, ⟨⟩, ⟨⟩, c1, c2, c3, ⟨⟩, ⟨⟩, ⟨⟩, ⟨⟩, te, tc, ⟨⟩⟩, (t : List Ent), (ar : List Int), (fs : List (List Int)), (fa : List (List Int)), (ff : List Bool), ⟨⟩⟩⟩ ih
  refine Gives.run (t' := .ite (decide (k < n)) (.need (inR k (List.length L)) (.need true (.need (decide (((ByteArray.size ((List.getD L (Int.toNat k) (ByteArray.empty, (false, ([] : List Int))))).1) ≤ 1000000000) ∧ ((ByteArray.size (ByteArray.mk (List.toArray [(116 : UInt8), (114 : UInt8), (101 : UInt8), (101 : UInt8), (47 : UInt8)]))) ≤ 1000000000))) (.ite ((cutP ((List.getD L (Int.toNat k) (ByteArray.empty, (false, ([] : List Int))))).1 (ByteArray.mk (List.toArray [(116 : UInt8), (114 : UInt8), (101 : UInt8), (101 : UInt8), (47 : UInt8)])))).2 (.ite (((List.getD L (Int.toNat k) (ByteArray.empty, (false, ([] : List Int))))).2).1 (.need true (.need (decide ((((List.length t) + (List.length [(((cutP ((List.getD L (Int.toNat k) (ByteArray.empty, (false, ([] : List Int))))).1 (ByteArray.mk (List.toArray [(116 : UInt8), (114 : UInt8), (101 : UInt8), (101 : UInt8), (47 : UInt8)])))).1, (true, (0 : Int)))]) : Nat) * (Lay.bytes L84) : Nat) ≤ 140737488355328)) (.need (decide (((-(9223372036854775808 : Int) : Int) ≤ (k + (1 : Int) : Int)) ∧ ((k + (1 : Int) : Int) ≤ (9223372036854775807 : Int)))) (.ret (.nx, ⟨143, [(0, rL tFile l), (2, .e (.c (.np 2 0))), (4, .e (.c (.np 4 0))), (36, rL tFile L), (37, rI n), (38, rI (k + (1 : Int) : Int))], [(2, .cells 42 [.nil, .nil, .nil, .nil, .d (.v (.int .i64 (((((zz).2).2).2).2).1)), .d (.v (.int .i64 ((((((zz).2).2).2).2).2).1)), .d (.v (.int .i64 (((((((zz).2).2).2).2).2).2).1)), .nil, .nil, .nil, .nil, .d (.v (.int .i64 ((((((((((((zz).2).2).2).2).2).2).2).2).2).2).2).1)), .d (.v (.int .u16 (((((((((((((zz).2).2).2).2).2).2).2).2).2).2).2).2).1))]), (4, .cells 42 [.d (.sl tInst iL), .d (.sl Ty.str iN), .row 76, .row 1000004003, .d (.v (.int .i64 c1)), .d (.v (.int .i64 c2)), .d (.v (.int .i64 c3)), .row 1000004007, .row 1000004008, .row 1000004009, .nil, .d (.v (.int .i64 te)), .d (.v (.int .u16 tc))]), (8, .cells 89 [.d (.v (.string ((List.getD L (Int.toNat k) (ByteArray.empty, (false, ([] : List Int))))).1)), .d (.v (.bool (((List.getD L (Int.toNat k) (ByteArray.empty, (false, ([] : List Int))))).2).1)), .d (.sl tU (((List.getD L (Int.toNat k) (ByteArray.empty, (false, ([] : List Int))))).2).2)]), (76, .row tEnt 84 (t ++ [(((cutP ((List.getD L (Int.toNat k) (ByteArray.empty, (false, ([] : List Int))))).1 (ByteArray.mk (List.toArray [(116 : UInt8), (114 : UInt8), (101 : UInt8), (101 : UInt8), (47 : UInt8)])))).1, (true, (0 : Int)))])), (1000004003, .row tI 3 ar), (1000004007, .row tB 43 fs), (1000004008, .row tB 43 fa), (1000004009, .row Ty.bool 4 ff)]⟩))))) (.ite ((cutP ((List.getD L (Int.toNat k) (ByteArray.empty, (false, ([] : List Int))))).1 (ByteArray.mk (List.toArray [(116 : UInt8), (114 : UInt8), (101 : UInt8), (101 : UInt8), (47 : UInt8)])))).2 (.need true (.need (decide ((((List.length t) + (List.length [(((cutP ((List.getD L (Int.toNat k) (ByteArray.empty, (false, ([] : List Int))))).1 (ByteArray.mk (List.toArray [(116 : UInt8), (114 : UInt8), (101 : UInt8), (101 : UInt8), (47 : UInt8)])))).1, (false, (0 : Int)))]) : Nat) * (Lay.bytes L84) : Nat) ≤ 140737488355328)) (.need true (.need (decide ((((List.length fs) + (List.length [(((List.getD L (Int.toNat k) (ByteArray.empty, (false, ([] : List Int))))).2).2]) : Nat) * (Lay.bytes L43) : Nat) ≤ 140737488355328)) (.need (decide (((-(9223372036854775808 : Int) : Int) ≤ (k + (1 : Int) : Int)) ∧ ((k + (1 : Int) : Int) ≤ (9223372036854775807 : Int)))) (.ret (.nx, ⟨143, [(0, rL tFile l), (2, .e (.c (.np 2 0))), (4, .e (.c (.np 4 0))), (36, rL tFile L), (37, rI n), (38, rI (k + (1 : Int) : Int))], [(2, .cells 42 [.nil, .nil, .nil, .nil, .d (.v (.int .i64 (((((zz).2).2).2).2).1)), .d (.v (.int .i64 ((((((zz).2).2).2).2).2).1)), .d (.v (.int .i64 (((((((zz).2).2).2).2).2).2).1)), .nil, .nil, .nil, .nil, .d (.v (.int .i64 ((((((((((((zz).2).2).2).2).2).2).2).2).2).2).2).1)), .d (.v (.int .u16 (((((((((((((zz).2).2).2).2).2).2).2).2).2).2).2).2).1))]), (4, .cells 42 [.d (.sl tInst iL), .d (.sl Ty.str iN), .row 87, .row 1000004003, .d (.v (.int .i64 c1)), .d (.v (.int .i64 c2)), .d (.v (.int .i64 c3)), .row 96, .row 1000004008, .row 1000004009, .nil, .d (.v (.int .i64 te)), .d (.v (.int .u16 tc))]), (8, .cells 89 [.d (.v (.string ((List.getD L (Int.toNat k) (ByteArray.empty, (false, ([] : List Int))))).1)), .d (.v (.bool (((List.getD L (Int.toNat k) (ByteArray.empty, (false, ([] : List Int))))).2).1)), .d (.sl tU (((List.getD L (Int.toNat k) (ByteArray.empty, (false, ([] : List Int))))).2).2)]), (87, .row tEnt 84 (t ++ [(((cutP ((List.getD L (Int.toNat k) (ByteArray.empty, (false, ([] : List Int))))).1 (ByteArray.mk (List.toArray [(116 : UInt8), (114 : UInt8), (101 : UInt8), (101 : UInt8), (47 : UInt8)])))).1, (false, (0 : Int)))])), (96, .row tB 43 (fs ++ [(((List.getD L (Int.toNat k) (ByteArray.empty, (false, ([] : List Int))))).2).2])), (1000004003, .row tI 3 ar), (1000004008, .row tB 43 fa), (1000004009, .row Ty.bool 4 ff)]⟩))))))) (.need true (.need (decide ((((List.length ar) + (List.length [(0 : Int)]) : Nat) * (Lay.bytes L3) : Nat) ≤ 140737488355328)) (.need true (.need (decide ((((List.length fa) + (List.length [(((List.getD L (Int.toNat k) (ByteArray.empty, (false, ([] : List Int))))).2).2]) : Nat) * (Lay.bytes L43) : Nat) ≤ 140737488355328)) (.need (decide (((-(9223372036854775808 : Int) : Int) ≤ (k + (1 : Int) : Int)) ∧ ((k + (1 : Int) : Int) ≤ (9223372036854775807 : Int)))) (.ret (.nx, ⟨143, [(0, rL tFile l), (2, .e (.c (.np 2 0))), (4, .e (.c (.np 4 0))), (36, rL tFile L), (37, rI n), (38, rI (k + (1 : Int) : Int))], [(2, .cells 42 [.nil, .nil, .nil, .nil, .d (.v (.int .i64 (((((zz).2).2).2).2).1)), .d (.v (.int .i64 ((((((zz).2).2).2).2).2).1)), .d (.v (.int .i64 (((((((zz).2).2).2).2).2).2).1)), .nil, .nil, .nil, .nil, .d (.v (.int .i64 ((((((((((((zz).2).2).2).2).2).2).2).2).2).2).2).1)), .d (.v (.int .u16 (((((((((((((zz).2).2).2).2).2).2).2).2).2).2).2).2).1))]), (4, .cells 42 [.d (.sl tInst iL), .d (.sl Ty.str iN), .row 1000004002, .row 52, .d (.v (.int .i64 c1)), .d (.v (.int .i64 c2)), .d (.v (.int .i64 c3)), .row 1000004007, .row 61, .row 1000004009, .nil, .d (.v (.int .i64 te)), .d (.v (.int .u16 tc))]), (8, .cells 89 [.d (.v (.string ((List.getD L (Int.toNat k) (ByteArray.empty, (false, ([] : List Int))))).1)), .d (.v (.bool (((List.getD L (Int.toNat k) (ByteArray.empty, (false, ([] : List Int))))).2).1)), .d (.sl tU (((List.getD L (Int.toNat k) (ByteArray.empty, (false, ([] : List Int))))).2).2)]), (52, .row tI 3 (ar ++ [(0 : Int)])), (61, .row tB 43 (fa ++ [(((List.getD L (Int.toNat k) (ByteArray.empty, (false, ([] : List Int))))).2).2])), (1000004002, .row tEnt 84 t), (1000004007, .row tB 43 fs), (1000004009, .row Ty.bool 4 ff)]⟩))))))))) (.ite ((cutP ((List.getD L (Int.toNat k) (ByteArray.empty, (false, ([] : List Int))))).1 (ByteArray.mk (List.toArray [(116 : UInt8), (114 : UInt8), (101 : UInt8), (101 : UInt8), (47 : UInt8)])))).2 (.need true (.need (decide ((((List.length t) + (List.length [(((cutP ((List.getD L (Int.toNat k) (ByteArray.empty, (false, ([] : List Int))))).1 (ByteArray.mk (List.toArray [(116 : UInt8), (114 : UInt8), (101 : UInt8), (101 : UInt8), (47 : UInt8)])))).1, (false, (0 : Int)))]) : Nat) * (Lay.bytes L84) : Nat) ≤ 140737488355328)) (.need true (.need (decide ((((List.length fs) + (List.length [(((List.getD L (Int.toNat k) (ByteArray.empty, (false, ([] : List Int))))).2).2]) : Nat) * (Lay.bytes L43) : Nat) ≤ 140737488355328)) (.need (decide (((-(9223372036854775808 : Int) : Int) ≤ (k + (1 : Int) : Int)) ∧ ((k + (1 : Int) : Int) ≤ (9223372036854775807 : Int)))) (.ret (.nx, ⟨143, [(0, rL tFile l), (2, .e (.c (.np 2 0))), (4, .e (.c (.np 4 0))), (36, rL tFile L), (37, rI n), (38, rI (k + (1 : Int) : Int))], [(2, .cells 42 [.nil, .nil, .nil, .nil, .d (.v (.int .i64 (((((zz).2).2).2).2).1)), .d (.v (.int .i64 ((((((zz).2).2).2).2).2).1)), .d (.v (.int .i64 (((((((zz).2).2).2).2).2).2).1)), .nil, .nil, .nil, .nil, .d (.v (.int .i64 ((((((((((((zz).2).2).2).2).2).2).2).2).2).2).2).1)), .d (.v (.int .u16 (((((((((((((zz).2).2).2).2).2).2).2).2).2).2).2).2).1))]), (4, .cells 42 [.d (.sl tInst iL), .d (.sl Ty.str iN), .row 87, .row 1000004003, .d (.v (.int .i64 c1)), .d (.v (.int .i64 c2)), .d (.v (.int .i64 c3)), .row 96, .row 1000004008, .row 1000004009, .nil, .d (.v (.int .i64 te)), .d (.v (.int .u16 tc))]), (8, .cells 89 [.d (.v (.string ((List.getD L (Int.toNat k) (ByteArray.empty, (false, ([] : List Int))))).1)), .d (.v (.bool (((List.getD L (Int.toNat k) (ByteArray.empty, (false, ([] : List Int))))).2).1)), .d (.sl tU (((List.getD L (Int.toNat k) (ByteArray.empty, (false, ([] : List Int))))).2).2)]), (87, .row tEnt 84 (t ++ [(((cutP ((List.getD L (Int.toNat k) (ByteArray.empty, (false, ([] : List Int))))).1 (ByteArray.mk (List.toArray [(116 : UInt8), (114 : UInt8), (101 : UInt8), (101 : UInt8), (47 : UInt8)])))).1, (false, (0 : Int)))])), (96, .row tB 43 (fs ++ [(((List.getD L (Int.toNat k) (ByteArray.empty, (false, ([] : List Int))))).2).2])), (1000004003, .row tI 3 ar), (1000004008, .row tB 43 fa), (1000004009, .row Ty.bool 4 ff)]⟩))))))) (.need true (.need (decide ((((List.length ar) + (List.length [(0 : Int)]) : Nat) * (Lay.bytes L3) : Nat) ≤ 140737488355328)) (.need true (.need (decide ((((List.length fa) + (List.length [(((List.getD L (Int.toNat k) (ByteArray.empty, (false, ([] : List Int))))).2).2]) : Nat) * (Lay.bytes L43) : Nat) ≤ 140737488355328)) (.need (decide (((-(9223372036854775808 : Int) : Int) ≤ (k + (1 : Int) : Int)) ∧ ((k + (1 : Int) : Int) ≤ (9223372036854775807 : Int)))) (.ret (.nx, ⟨143, [(0, rL tFile l), (2, .e (.c (.np 2 0))), (4, .e (.c (.np 4 0))), (36, rL tFile L), (37, rI n), (38, rI (k + (1 : Int) : Int))], [(2, .cells 42 [.nil, .nil, .nil, .nil, .d (.v (.int .i64 (((((zz).2).2).2).2).1)), .d (.v (.int .i64 ((((((zz).2).2).2).2).2).1)), .d (.v (.int .i64 (((((((zz).2).2).2).2).2).2).1)), .nil, .nil, .nil, .nil, .d (.v (.int .i64 ((((((((((((zz).2).2).2).2).2).2).2).2).2).2).2).1)), .d (.v (.int .u16 (((((((((((((zz).2).2).2).2).2).2).2).2).2).2).2).2).1))]), (4, .cells 42 [.d (.sl tInst iL), .d (.sl Ty.str iN), .row 1000004002, .row 52, .d (.v (.int .i64 c1)), .d (.v (.int .i64 c2)), .d (.v (.int .i64 c3)), .row 1000004007, .row 61, .row 1000004009, .nil, .d (.v (.int .i64 te)), .d (.v (.int .u16 tc))]), (8, .cells 89 [.d (.v (.string ((List.getD L (Int.toNat k) (ByteArray.empty, (false, ([] : List Int))))).1)), .d (.v (.bool (((List.getD L (Int.toNat k) (ByteArray.empty, (false, ([] : List Int))))).2).1)), .d (.sl tU (((List.getD L (Int.toNat k) (ByteArray.empty, (false, ([] : List Int))))).2).2)]), (52, .row tI 3 (ar ++ [(0 : Int)])), (61, .row tB 43 (fa ++ [(((List.getD L (Int.toNat k) (ByteArray.empty, (false, ([] : List Int))))).2).2])), (1000004002, .row tEnt 84 t), (1000004007, .row tB 43 fs), (1000004009, .row Ty.bool 4 ff)]⟩)))))))))))) (.ret (.ex 0, ⟨143, [(0, rL tFile l), (2, .e (.c (.np 2 0))), (4, .e (.c (.np 4 0)))], [(2, .cells 42 [.nil, .nil, .nil, .nil, .d (.v (.int .i64 (((((zz).2).2).2).2).1)), .d (.v (.int .i64 ((((((zz).2).2).2).2).2).1)), .d (.v (.int .i64 (((((((zz).2).2).2).2).2).2).1)), .nil, .nil, .nil, .nil, .d (.v (.int .i64 ((((((((((((zz).2).2).2).2).2).2).2).2).2).2).2).1)), .d (.v (.int .u16 (((((((((((((zz).2).2).2).2).2).2).2).2).2).2).2).2).1))]), (4, .cells 42 [.d (.sl tInst iL), .d (.sl Ty.str iN), .row 1000004002, .row 1000004003, .d (.v (.int .i64 c1)), .d (.v (.int .i64 c2)), .d (.v (.int .i64 c3)), .row 1000004007, .row 1000004008, .row 1000004009, .nil, .d (.v (.int .i64 te)), .d (.v (.int .u16 tc))]), (1000004002, .row tEnt 84 t), (1000004003, .row tI 3 ar), (1000004007, .row tB 43 fs), (1000004008, .row tB 43 fa), (1000004009, .row Ty.bool 4 ff)]⟩))) (by kernel_rfl) ?_
  refine .rnd fun ⟨h1, h2, h3, h4, ⟨h5, h6, h7, h8⟩, h9⟩ => ?_
  have h1 : n = L.length := h1
  have h2 : n ≤ 1000000 := h2
  have h3 : 0 ≤ k := h3
  have h4 : k ≤ n := h4
  have h5 : (t.length : Int) ≤ k := h5
  have h6 : (ar.length : Int) ≤ k := h6
  have h7 : (fs.length : Int) ≤ k := h7
  have h8 : (fa.length : Int) ≤ k := h8
  have h9 : (L.all fun f : File => decide (f.1.size ≤ 1000000000)) = true := h9
  show Gives _ (.ret (Ex.ex 0, q30x.st ((l, (), (), ()), (zz, (iL, iN, (), (), c1, c2, c3, (), (), (), (), te, tc, ()), ((L.drop k.toNat).foldl addF (t, ar, fs, fa)).1, ((L.drop k.toNat).foldl addF (t, ar, fs, fa)).2.1, ((L.drop k.toNat).foldl addF (t, ar, fs, fa)).2.2.1, ((L.drop k.toNat).foldl addF (t, ar, fs, fa)).2.2.2, ff, ()))))
  refine .lif (fun hk => ?_) (fun hk => ?_)
  · have e : (k + 1).toNat = k.toNat + 1 := by omega
    have hx := of_decide_eq_true (List.all_eq_true.1 h9 _ (List.getElem_mem (show k.toNat < L.length by omega)))
    rw [show L[k.toNat]'(by omega) = L.getD k.toNat (ByteArray.empty, false, []) by simp [List.getD_eq_getElem?_getD, List.getElem?_eq_getElem (show k.toNat < L.length by omega)]] at hx
    rw [drop_at L k.toNat (ByteArray.empty, false, []) (by omega)]
    refine .lneed (inR_of h3 (by omega)) ?_
    generalize L.getD k.toNat (ByteArray.empty, false, []) = x at hx ⊢
    obtain ⟨p, d, c⟩ := x
    have last : ∀ (σ : St) (a : Acc), addF (t, ar, fs, fa) (p, d, c) = a → accLe a (k + 1) → (fn30.at 0).h nr30 σ = q30a.st ((l, (), (), L, n, k + 1, ()), (zz, (iL, iN, (), (), c1, c2, c3, (), (), (), (), te, tc, ()), a.1, a.2.1, a.2.2.1, a.2.2.2, ff, ())) →
        Gives ((Tr.need (decide (((-9223372036854775808 : Int) ≤ k + 1) ∧ (k + 1 ≤ (9223372036854775807 : Int)))) (.ret (Ex.nx, σ))).bind (again (n - k).toNat ((fn30.at 0).f 0 C30 nr30 lp30) ((fn30.at 0).h nr30)))
        (.ret (Ex.ex 0, q30x.st ((l, (), (), ()), (zz, (iL, iN, (), (), c1, c2, c3, (), (), (), (), te, tc, ()), (((p, d, c) :: L.drop (k.toNat + 1)).foldl addF (t, ar, fs, fa)).1, (((p, d, c) :: L.drop (k.toNat + 1)).foldl addF (t, ar, fs, fa)).2.1, (((p, d, c) :: L.drop (k.toNat + 1)).foldl addF (t, ar, fs, fa)).2.2.1, (((p, d, c) :: L.drop (k.toNat + 1)).foldl addF (t, ar, fs, fa)).2.2.2, ff, ())))) := fun σ a ha hle hσ => by
      refine .lnd (by omega) (Gives.next hσ ((ih ((l, (), (), L, n, k + 1, ()), (zz, (iL, iN, (), (), c1, c2, c3, (), (), (), (), te, tc, ()), a.1, a.2.1, a.2.2.1, a.2.2.2, ff, ())) (by simp only; omega)).trans ?_))
      refine .nd ⟨h1, h2, by show 0 ≤ k + 1; omega, by show k + 1 ≤ n; omega, hle, h9⟩ ?_
      show Gives (.ret (Ex.ex 0, q30x.st ((l, (), (), ()), (zz, (iL, iN, (), (), c1, c2, c3, (), (), (), (), te, tc, ()), ((L.drop (k + 1).toNat).foldl addF a).1, ((L.drop (k + 1).toNat).foldl addF a).2.1, ((L.drop (k + 1).toNat).foldl addF a).2.2.1, ((L.drop (k + 1).toNat).foldl addF a).2.2.2, ff, ())))) _
      rw [List.foldl_cons, ha, e]
      exact .refl _
    have hpx : p.size ≤ 1000000000 ∧ (ByteArray.mk (List.toArray [(116 : UInt8), (114 : UInt8), (101 : UInt8), (101 : UInt8), (47 : UInt8)])).size ≤ 1000000000 := ⟨hx, by decide +kernel⟩
    refine .lneed rfl (.lnd hpx ?_)
    refine .lite (fun hc => ?_) (fun hc => ?_)
    · have hcc : (cutP p (bs "tree/")).2 = true := hc
      refine .lite (fun hd => ?_) (fun hd => ?_)
      · have hd : d = true := hd
        subst hd
        refine .lneed rfl (.lnd (by show (t.length + 1) * 32 ≤ _; omega) (last _ (t ++ [((cutP p (bs "tree/")).1, true, 0)], ar, fs, fa) ?_ ?_ ?_))
        · unfold addF; rw [if_pos hcc]; rfl
        · exact ⟨by show ((t ++ [_]).length : Int) ≤ _; rw [List.length_append]; simp; omega, by show (ar.length : Int) ≤ _; omega, by show (fs.length : Int) ≤ _; omega, by show (fa.length : Int) ≤ _; omega⟩
        · kernel_rfl
      · have hd : d = false := hd
        subst hd
        refine .lite (fun _ => ?_) (fun hc' => by rw [show (cutP p (bs "tree/")).2 = false from hc'] at hcc; cases hcc)
        refine .lneed rfl (.lnd (by show (t.length + 1) * 32 ≤ _; omega) (.lneed rfl (.lnd (by show (fs.length + 1) * 24 ≤ _; omega) (last _ (t ++ [((cutP p (bs "tree/")).1, false, 0)], ar, fs ++ [c], fa) ?_ ?_ ?_))))
        · unfold addF; rw [if_pos hcc]; rfl
        · exact ⟨by show ((t ++ [_]).length : Int) ≤ _; rw [List.length_append]; simp; omega, by show (ar.length : Int) ≤ _; omega, by show ((fs ++ [_]).length : Int) ≤ _; rw [List.length_append]; simp; omega, by show (fa.length : Int) ≤ _; omega⟩
        · kernel_rfl
    · have hcc : (cutP p (bs "tree/")).2 = false := hc
      refine .lite (fun hc' => by rw [show (cutP p (bs "tree/")).2 = true from hc'] at hcc; cases hcc) (fun _ => ?_)
      refine .lneed rfl (.lnd (by show (ar.length + 1) * 8 ≤ _; omega) (.lneed rfl (.lnd (by show (fa.length + 1) * 24 ≤ _; omega) (last _ (t, ar ++ [0], fs, fa ++ [c]) ?_ ?_ ?_))))
      · unfold addF; rw [if_neg (by rw [hcc]; exact Bool.false_ne_true)]
      · exact ⟨by show (t.length : Int) ≤ _; omega, by show ((ar ++ [_]).length : Int) ≤ _; rw [List.length_append]; simp; omega, by show (fs.length : Int) ≤ _; omega, by show ((fa ++ [_]).length : Int) ≤ _; rw [List.length_append]; simp; omega⟩
      · kernel_rfl
  · rw [List.drop_eq_nil_of_le (by omega)]
    exact .refl _
set_option maxHeartbeats 4000000 in
theorem lp30b_ok : SumOk 0 C30 nr30 lp30 (fn30.at 3) (sumP q30b R30b) := by
  refine .pat q30b R30b (fun v => (v.1.2.2.2.2.1 - v.1.2.2.2.2.2.1).toNat) ?_
  rintro ⟨⟨(l : List File), ⟨⟩, ⟨⟩, (L : List Int), (n : Int), (k : Int), ⟨⟩⟩, ⟨zz, ⟨iL, iN, ⟨⟩, ⟨⟩, c1, c2, c3, ⟨⟩, ⟨⟩, ⟨⟩, ⟨⟩, te, tc, ⟨⟩⟩, (t : List Ent), (ar : List Int), (fs : List (List Int)), (fa : List (List Int)), (ff : List Bool), ⟨⟩⟩⟩ ih
  refine Gives.run (t' := .ite (decide (k < n)) (.need (inR k (List.length L)) (.need true (.need (decide ((((List.length ff) + (List.length [((List.getD L (Int.toNat k) (0 : Int)) == (1 : Int))]) : Nat) * (Lay.bytes L4) : Nat) ≤ 140737488355328)) (.need (decide (((-(9223372036854775808 : Int) : Int) ≤ (k + (1 : Int) : Int)) ∧ ((k + (1 : Int) : Int) ≤ (9223372036854775807 : Int)))) (.ret (.nx, ⟨143, [(0, rL tFile l), (2, .e (.c (.np 2 0))), (4, .e (.c (.np 4 0))), (106, rL tU L), (107, rI n), (108, rI (k + (1 : Int) : Int))], [(2, .cells 42 [.nil, .nil, .nil, .nil, .d (.v (.int .i64 (((((zz).2).2).2).2).1)), .d (.v (.int .i64 ((((((zz).2).2).2).2).2).1)), .d (.v (.int .i64 (((((((zz).2).2).2).2).2).2).1)), .nil, .nil, .nil, .nil, .d (.v (.int .i64 ((((((((((((zz).2).2).2).2).2).2).2).2).2).2).2).1)), .d (.v (.int .u16 (((((((((((((zz).2).2).2).2).2).2).2).2).2).2).2).2).1))]), (4, .cells 42 [.d (.sl tInst iL), .d (.sl Ty.str iN), .row 1000004002, .row 1000004003, .d (.v (.int .i64 c1)), .d (.v (.int .i64 c2)), .d (.v (.int .i64 c3)), .row 1000004007, .row 1000004008, .row 118, .nil, .d (.v (.int .i64 te)), .d (.v (.int .u16 tc))]), (118, .row Ty.bool 4 (ff ++ [((List.getD L (Int.toNat k) (0 : Int)) == (1 : Int))])), (1000004002, .row tEnt 84 t), (1000004003, .row tI 3 ar), (1000004007, .row tB 43 fs), (1000004008, .row tB 43 fa)]⟩)))))) (.ret (.ex 3, ⟨143, [(0, rL tFile l), (2, .e (.c (.np 2 0))), (4, .e (.c (.np 4 0)))], [(2, .cells 42 [.nil, .nil, .nil, .nil, .d (.v (.int .i64 (((((zz).2).2).2).2).1)), .d (.v (.int .i64 ((((((zz).2).2).2).2).2).1)), .d (.v (.int .i64 (((((((zz).2).2).2).2).2).2).1)), .nil, .nil, .nil, .nil, .d (.v (.int .i64 ((((((((((((zz).2).2).2).2).2).2).2).2).2).2).2).1)), .d (.v (.int .u16 (((((((((((((zz).2).2).2).2).2).2).2).2).2).2).2).2).1))]), (4, .cells 42 [.d (.sl tInst iL), .d (.sl Ty.str iN), .row 1000004002, .row 1000004003, .d (.v (.int .i64 c1)), .d (.v (.int .i64 c2)), .d (.v (.int .i64 c3)), .row 1000004007, .row 1000004008, .row 1000004009, .nil, .d (.v (.int .i64 te)), .d (.v (.int .u16 tc))]), (1000004002, .row tEnt 84 t), (1000004003, .row tI 3 ar), (1000004007, .row tB 43 fs), (1000004008, .row tB 43 fa), (1000004009, .row Ty.bool 4 ff)]⟩))) (by kernel_rfl) ?_
  refine .rnd fun ⟨h1, h2, h3, h4, h5⟩ => ?_
  have h1 : n = L.length := h1
  have h2 : n ≤ 1000000000 := h2
  have h3 : 0 ≤ k := h3
  have h4 : k ≤ n := h4
  have h5 : (ff.length : Int) ≤ k := h5
  show Gives _ (.ret (Ex.ex 3, q30x.st ((l, (), (), ()), (zz, (iL, iN, (), (), c1, c2, c3, (), (), (), (), te, tc, ()), t, ar, fs, fa, ff ++ (L.drop k.toNat).map (fun x : Int => x == 1), ()))))
  refine .lif (fun hk => ?_) (fun hk => ?_)
  · have e : (k + 1).toNat = k.toNat + 1 := by omega
    rw [drop_at L k.toNat 0 (by omega)]
    refine .lneed (inR_of h3 (by omega)) ?_
    generalize L.getD k.toNat 0 = x
    refine .lneed rfl (.lnd (by show (ff.length + 1) * 1 ≤ _; omega) (.lnd (by omega) ?_))
    refine Gives.next (σ' := q30b.st ((l, (), (), L, n, k + 1, ()), (zz, (iL, iN, (), (), c1, c2, c3, (), (), (), (), te, tc, ()), t, ar, fs, fa, ff ++ [x == 1], ()))) (by kernel_rfl) ((ih ((l, (), (), L, n, k + 1, ()), (zz, (iL, iN, (), (), c1, c2, c3, (), (), (), (), te, tc, ()), t, ar, fs, fa, ff ++ [x == 1], ())) (by simp only; omega)).trans ?_)
    refine .nd ⟨h1, h2, by show 0 ≤ k + 1; omega, by show k + 1 ≤ n; omega, by show ((ff ++ [_]).length : Int) ≤ k + 1; rw [List.length_append]; simp; omega⟩ ?_
    show Gives (.ret (Ex.ex 3, q30x.st ((l, (), (), ()), (zz, (iL, iN, (), (), c1, c2, c3, (), (), (), (), te, tc, ()), t, ar, fs, fa, (ff ++ [x == 1]) ++ (L.drop (k + 1).toNat).map (fun x : Int => x == 1), ())))) _
    rw [e, List.map_cons, List.append_assoc]
    exact .refl _
  · rw [List.drop_eq_nil_of_le (by omega), List.map_nil, List.append_nil]
    exact .refl _
theorem lp30_ok : LpsOk 0 C30 nr30 lp30 fn30.loops := by
  refine .all (by kernel_rfl) ?_
  simp only [lp30, List.forall_mem_cons, List.not_mem_nil, false_imp_iff, implies_true, and_true]
  exact ⟨lp30a_ok, lp30b_ok⟩
end Go.Proofs.YtjebfbkigkjboaaGreatDoor.Sy

/- Contracts: image.made. -/
set_option maxRecDepth 100000
namespace Go.Proofs.YtjebfbkigkjboaaGreatDoor.Sy
open Go.RowKit Kit Go.Proofs
def zeroImg : Img := (([], []), ([], [], 0, 0, 0), ([], [], []), ([], 0, 0))
def dF : File := (ByteArray.empty, false, [])
def mids (l : List File) : List File := (l.take (l.length - 3)).drop 1
def accF (l : List File) : Acc := (mids l).foldl addF ([], [], [], [])
def unkOf (l : List File) : Bool × Cls := unkF ((accF l).1, (accF l).2.1, 0, 0, 0) (l.getD (l.length - 2) dF).2.2
def made2 (l : List File) : Img := (readP (l.getD 0 dF).2.2, (unkOf l).2, ((accF l).2.2.1, (accF l).2.2.2, (l.getD (l.length - 3) dF).2.2.map fun x : Int => x == 1), untraceF (l.getD (l.length - 1) dF).2.2)
def madeF (l : List File) : Bool × Img :=
  if l.length < 4 ∨ readE (l.getD 0 dF).2.2 ≠ 0 then (false, zeroImg) else ((unkOf l).1, made2 l)
def eImg (m : Img) : EV := .agg ((split tImg m).map .d)
def madeOk (l : List File) : Bool := decide (l.length ≤ 1000000) && l.all fun f => decide (f.1.size ≤ 1000000000) && u8s f.2.2 && decide (f.2.2.length ≤ 1000000000)
def madeCtr : Ctr := ctr (one (aVal (.sl tFile))) fun a => .need (madeOk a.1) (.ret (.tup [eImg (madeF a.1).2, eB (madeF a.1).1], []))
def zeroA : EV := .agg [.nil, .nil, .nil, .nil, .d (.v (.int .i64 0)), .d (.v (.int .i64 0)), .d (.v (.int .i64 0)), .nil, .nil, .nil, .nil, .d (.v (.int .i64 0)), .d (.v (.int .u16 0))]
theorem madeOk_at {l : List File} (h : madeOk l = true) (k : Nat) : (l.getD k dF).1.size ≤ 1000000000 ∧ u8s (l.getD k dF).2.2 = true ∧ (l.getD k dF).2.2.length ≤ 1000000000 := by
  simp only [madeOk, Bool.and_eq_true] at h
  by_cases hk : k < l.length
  · have := List.all_eq_true.1 h.2 _ (List.getElem_mem hk)
    rw [show l[k] = l.getD k dF by simp [List.getD_eq_getElem?_getD, List.getElem?_eq_getElem hk]] at this
    simp only [Bool.and_eq_true, decide_eq_true_eq] at this
    exact ⟨this.1.1, this.1.2, this.2⟩
  · rw [List.getD_eq_getElem?_getD, List.getElem?_eq_none (by omega)]
    exact ⟨Nat.zero_le _, rfl, Nat.zero_le _⟩
def z13 : cellV [.nil, .nil, .nil, .nil, .dat tI, .dat tI, .dat tI, .nil, .nil, .nil, .nil, .dat tI, .dat (.int .u16)] := ((), (), (), (), (0 : Int), (0 : Int), (0 : Int), (), (), (), (), (0 : Int), (0 : Int), ())
theorem addF_len (f : File) (a : Acc) : (addF a f).1.length ≤ a.1.length + 1 ∧ (addF a f).2.1.length ≤ a.2.1.length + 1 := by
  unfold addF
  split
  · split <;> simp
  · simp
theorem foldF_len : ∀ (L : List File) (a : Acc), (L.foldl addF a).1.length ≤ a.1.length + L.length ∧ (L.foldl addF a).2.1.length ≤ a.2.1.length + L.length
  | [], a => ⟨Nat.le_refl _, Nat.le_refl _⟩
  | f :: r, a => by
    have h1 := addF_len f a
    have h2 := foldF_len r (addF a f)
    rw [List.foldl_cons, List.length_cons]
    omega
theorem accF_len (l : List File) : (accF l).1.length ≤ l.length ∧ (accF l).2.1.length ≤ l.length := by
  have h := foldF_len (mids l) ([], [], [], [])
  have hm : (mids l).length ≤ l.length := by unfold mids; rw [List.length_drop, List.length_take]; omega
  unfold accF
  simp only [List.length_nil] at h
  omega
def zC : List CV := [.nil, .nil, .nil, .nil, .d (.v (.int .i64 0)), .d (.v (.int .i64 0)), .d (.v (.int .i64 0)), .nil, .nil, .nil, .nil, .d (.v (.int .i64 0)), .d (.v (.int .u16 0))]
set_option maxHeartbeats 8000000 in
theorem made0_ok : CtrOk Tryz.prog 33 (ctr (one (aVal (.sl tFile))) fun a => .need (madeOk a.1) (.ite (decide (a.1.length < 4 ∨ readE (a.1.getD 0 dF).2.2 ≠ 0)) (.ret (.tup [zeroA, eB false], [])) (.ret (.tup [eImg (made2 a.1), eB (unkOf a.1).1], [])))) := by
  refine .mk C30_ok mixed (q := fn30) (.of Tryz.func33 (by kernel_rfl)) lp30_ok (by decide) ?_
  rintro ⟨(l : List File), ⟨⟩⟩ -
  show Gives _ (.need (madeOk l) (.ite (decide (l.length < 4 ∨ readE (l.getD 0 dF).2.2 ≠ 0)) (.ret (SV.tup [zeroA, eB false], (⟨0, [], []⟩ : St))) (.ret (SV.tup [eImg (made2 l), eB (unkOf l).1], (⟨0, [], []⟩ : St)))))
  refine .rneed fun hok => ?_
  have hl : l.length ≤ 1000000 := by simp only [madeOk, Bool.and_eq_true, decide_eq_true_eq] at hok; exact hok.1
  refine Gives.seq (by kernel_rfl) ?_
  refine Gives.run (t' := .ret (.nx, ⟨143, [(0, rL tFile l), (2, .e (.c (.np 2 0)))], [(2, .cells 42 [.nil, .nil, .nil, .nil, .d (.v (.int .i64 (0 : Int))), .d (.v (.int .i64 (0 : Int))), .d (.v (.int .i64 (0 : Int))), .nil, .nil, .nil, .nil, .d (.v (.int .i64 (0 : Int))), .d (.v (.int .u16 (0 : Int)))])]⟩)) (by kernel_rfl) ?_
  refine Gives.goto rfl (Gives.seq (by kernel_rfl) ?_)
  refine Gives.run (t' := .ret (.nx, ⟨143, [(0, rL tFile l), (2, .e (.c (.np 2 0))), (4, .e (.c (.np 4 0)))], [(2, .cells 42 [.nil, .nil, .nil, .nil, .d (.v (.int .i64 (0 : Int))), .d (.v (.int .i64 (0 : Int))), .d (.v (.int .i64 (0 : Int))), .nil, .nil, .nil, .nil, .d (.v (.int .i64 (0 : Int))), .d (.v (.int .u16 (0 : Int)))]), (4, .cells 42 [.nil, .nil, .nil, .nil, .d (.v (.int .i64 (0 : Int))), .d (.v (.int .i64 (0 : Int))), .d (.v (.int .i64 (0 : Int))), .nil, .nil, .nil, .nil, .d (.v (.int .i64 (0 : Int))), .d (.v (.int .u16 (0 : Int)))])]⟩)) (by kernel_rfl) ?_
  refine Gives.goto rfl (Gives.seq (by kernel_rfl) ?_)
  refine Gives.run (t' := .ite (decide ((((List.length l) : Nat) : Int) < (4 : Int))) (.need true (.ret (.rt, ⟨143, [(2, .e (.c (.np 2 0))), (3, .e (.c (.kb false)))], [(2, .cells 42 [.nil, .nil, .nil, .nil, .d (.v (.int .i64 (0 : Int))), .d (.v (.int .i64 (0 : Int))), .d (.v (.int .i64 (0 : Int))), .nil, .nil, .nil, .nil, .d (.v (.int .i64 (0 : Int))), .d (.v (.int .u16 (0 : Int)))])]⟩))) (.ret (.nx, ⟨143, [(0, rL tFile l), (2, .e (.c (.np 2 0))), (4, .e (.c (.np 4 0))), (17, .e (.c (.kb false)))], [(2, .cells 42 [.nil, .nil, .nil, .nil, .d (.v (.int .i64 (0 : Int))), .d (.v (.int .i64 (0 : Int))), .d (.v (.int .i64 (0 : Int))), .nil, .nil, .nil, .nil, .d (.v (.int .i64 (0 : Int))), .d (.v (.int .u16 (0 : Int)))]), (4, .cells 42 [.nil, .nil, .nil, .nil, .d (.v (.int .i64 (0 : Int))), .d (.v (.int .i64 (0 : Int))), .d (.v (.int .i64 (0 : Int))), .nil, .nil, .nil, .nil, .d (.v (.int .i64 (0 : Int))), .d (.v (.int .u16 (0 : Int)))])]⟩))) (by kernel_rfl) ?_
  have hbad : ∀ {b : Bool} {X : Tr (SV × St)}, b = true → Gives ((Tr.ret (Ex.rt, (⟨143, [(2, .e (.c (.np 2 0))), (3, .e (.c (.kb false)))], [(2, .cells 42 zC)]⟩ : St))).bind (fin C30 fn30.rs)) (.ite b (.ret (SV.tup [zeroA, eB false], (⟨0, [], []⟩ : St))) X) := fun hb => by
    exact Gives.of_eq (t' := .need true (.ret (SV.tup [zeroA, eB false], (⟨0, [], []⟩ : St)))) (by kernel_rfl) (.need rfl (.rtt hb (.refl _)))
  refine .lif (fun h4 => ?_) (fun h4 => ?_)
  · exact .lneed rfl (hbad (decide_eq_true (.inl (by omega))))
  have h0 := madeOk_at hok 0
  refine Gives.goto rfl (Gives.seq (by kernel_rfl) ?_)
  refine Gives.run (t' := .need (inR (0 : Int) (List.length l)) (.need (decide ((u8s (((List.getD l 0 (ByteArray.empty, (false, ([] : List Int))))).2).2) = true)) (.ret (.nx, ⟨143, [(0, rL tFile l), (2, .e (.c (.np 2 0))), (4, .e (.c (.np 4 0))), (5, .e (.c (.np 5 0))), (6, rI (readE (((List.getD l 0 (ByteArray.empty, (false, ([] : List Int))))).2).2))], [(2, .cells 42 [.nil, .nil, .nil, .nil, .d (.v (.int .i64 (0 : Int))), .d (.v (.int .i64 (0 : Int))), .d (.v (.int .i64 (0 : Int))), .nil, .nil, .nil, .nil, .d (.v (.int .i64 (0 : Int))), .d (.v (.int .u16 (0 : Int)))]), (4, .cells 42 [.nil, .nil, .nil, .nil, .d (.v (.int .i64 (0 : Int))), .d (.v (.int .i64 (0 : Int))), .d (.v (.int .i64 (0 : Int))), .nil, .nil, .nil, .nil, .d (.v (.int .i64 (0 : Int))), .d (.v (.int .u16 (0 : Int)))]), (5, .cells 28 [.d (.sl tInst ((readP (((List.getD l 0 (ByteArray.empty, (false, ([] : List Int))))).2).2)).1), .d (.sl Ty.str ((readP (((List.getD l 0 (ByteArray.empty, (false, ([] : List Int))))).2).2)).2)])]⟩)))) (by kernel_rfl) ?_
  refine .lneed (inR_of (by omega) (by omega)) (.lnd h0.2.1 (Gives.goto rfl (Gives.seq (by kernel_rfl) ?_)))
  refine Gives.run (t' := .ite ((readE (((List.getD l 0 (ByteArray.empty, (false, ([] : List Int))))).2).2) != (0 : Int)) (.need true (.ret (.rt, ⟨143, [(2, .e (.c (.np 2 0))), (3, .e (.c (.kb false)))], [(2, .cells 42 [.nil, .nil, .nil, .nil, .d (.v (.int .i64 (0 : Int))), .d (.v (.int .i64 (0 : Int))), .d (.v (.int .i64 (0 : Int))), .nil, .nil, .nil, .nil, .d (.v (.int .i64 (0 : Int))), .d (.v (.int .u16 (0 : Int)))])]⟩))) (.ret (.nx, ⟨143, [(0, rL tFile l), (2, .e (.c (.np 2 0))), (4, .e (.c (.np 4 0))), (5, .e (.c (.np 5 0))), (28, .e (.c (.kb false)))], [(2, .cells 42 [.nil, .nil, .nil, .nil, .d (.v (.int .i64 (0 : Int))), .d (.v (.int .i64 (0 : Int))), .d (.v (.int .i64 (0 : Int))), .nil, .nil, .nil, .nil, .d (.v (.int .i64 (0 : Int))), .d (.v (.int .u16 (0 : Int)))]), (4, .cells 42 [.nil, .nil, .nil, .nil, .d (.v (.int .i64 (0 : Int))), .d (.v (.int .i64 (0 : Int))), .d (.v (.int .i64 (0 : Int))), .nil, .nil, .nil, .nil, .d (.v (.int .i64 (0 : Int))), .d (.v (.int .u16 (0 : Int)))]), (5, .cells 28 [.d (.sl tInst ((readP (((List.getD l 0 (ByteArray.empty, (false, ([] : List Int))))).2).2)).1), .d (.sl Ty.str ((readP (((List.getD l 0 (ByteArray.empty, (false, ([] : List Int))))).2).2)).2)])]⟩))) (by kernel_rfl) ?_
  refine .lite (fun h5 => ?_) (fun h5 => ?_)
  · exact .lneed rfl (hbad (decide_eq_true (.inr (bne_iff_ne.1 h5))))
  have h5 : readE (l.getD 0 dF).2.2 = 0 := by have := bne_eq_false_iff_eq.1 h5; exact this
  refine Gives.goto rfl (Gives.seq (by kernel_rfl) ?_)
  refine Gives.run (t' := .need true (.ret (.nx, ⟨143, [(0, rL tFile l), (2, .e (.c (.np 2 0))), (4, .e (.c (.np 4 0)))], [(2, .cells 42 [.nil, .nil, .nil, .nil, .d (.v (.int .i64 (0 : Int))), .d (.v (.int .i64 (0 : Int))), .d (.v (.int .i64 (0 : Int))), .nil, .nil, .nil, .nil, .d (.v (.int .i64 (0 : Int))), .d (.v (.int .u16 (0 : Int)))]), (4, .cells 42 [.d (.sl tInst ((readP (((List.getD l 0 (ByteArray.empty, (false, ([] : List Int))))).2).2)).1), .d (.sl Ty.str ((readP (((List.getD l 0 (ByteArray.empty, (false, ([] : List Int))))).2).2)).2), .nil, .nil, .d (.v (.int .i64 (0 : Int))), .d (.v (.int .i64 (0 : Int))), .d (.v (.int .i64 (0 : Int))), .nil, .nil, .nil, .nil, .d (.v (.int .i64 (0 : Int))), .d (.v (.int .u16 (0 : Int)))]), (5, .cells 28 [.d (.sl tInst ((readP (((List.getD l 0 (ByteArray.empty, (false, ([] : List Int))))).2).2)).1), .d (.sl Ty.str ((readP (((List.getD l 0 (ByteArray.empty, (false, ([] : List Int))))).2).2)).2)])]⟩))) (by kernel_rfl) ?_
  have hd : ∀ {X : Tr (SV × St)} {Y : Tr (SV × St)} {t : Tr (SV × St)}, Gives t Y → Gives t (.ite (decide (l.length < 4 ∨ readE (l.getD 0 dF).2.2 ≠ 0)) X Y) := fun h => .rff (decide_eq_false (by rw [not_or]; exact ⟨by omega, fun h => h h5⟩)) h
  refine .lneed rfl (hd ?_)
  clear hd hbad
  unfold made2
  show Gives ((Tr.ret (Ex.nx, (⟨143, [(0, rL tFile l), (2, .e (.c (.np 2 0))), (4, .e (.c (.np 4 0)))], [(2, .cells 42 zC), (4, .cells 42 [.d (.sl tInst (readP (l.getD 0 dF).2.2).1), .d (.sl .str (readP (l.getD 0 dF).2.2).2), .nil, .nil, .d (.v (.int .i64 0)), .d (.v (.int .i64 0)), .d (.v (.int .i64 0)), .nil, .nil, .nil, .nil, .d (.v (.int .i64 0)), .d (.v (.int .u16 0))]), (5, .cells 28 [.d (.sl tInst (readP (l.getD 0 dF).2.2).1), .d (.sl .str (readP (l.getD 0 dF).2.2).2)])]⟩ : St))).bind _) _
  generalize readP (l.getD 0 dF).2.2 = P
  obtain ⟨pL, pN⟩ := P
  refine Gives.goto rfl (Gives.seq (by kernel_rfl) ?_)
  refine Gives.run (t' := .need (decide (((-(9223372036854775808 : Int) : Int) ≤ ((((List.length l) : Nat) : Int) - (3 : Int) : Int)) ∧ (((((List.length l) : Nat) : Int) - (3 : Int) : Int) ≤ (9223372036854775807 : Int)))) (.need (okB (1 : Int) ((((List.length l) : Nat) : Int) - (3 : Int) : Int) (List.length l)) (.need (decide (((((List.length (List.drop 1 (List.take (Int.toNat ((((List.length l) : Nat) : Int) - (3 : Int) : Int)) l))) : Nat) : Int) = (((List.length (List.drop 1 (List.take (Int.toNat ((((List.length l) : Nat) : Int) - (3 : Int) : Int)) l))) : Nat) : Int)) ∧ (((((List.length (List.drop 1 (List.take (Int.toNat ((((List.length l) : Nat) : Int) - (3 : Int) : Int)) l))) : Nat) : Int) ≤ (1000000 : Int)) ∧ (((0 : Int) ≤ (0 : Int)) ∧ (((0 : Int) ≤ (((List.length (List.drop 1 (List.take (Int.toNat ((((List.length l) : Nat) : Int) - (3 : Int) : Int)) l))) : Nat) : Int)) ∧ ((accLe (accOf ((Unit.unit, (Unit.unit, (Unit.unit, (Unit.unit, ((0 : Int), ((0 : Int), ((0 : Int), (Unit.unit, (Unit.unit, (Unit.unit, (Unit.unit, ((0 : Int), ((0 : Int), Unit.unit))))))))))))), ((pL, (pN, (Unit.unit, (Unit.unit, ((0 : Int), ((0 : Int), ((0 : Int), (Unit.unit, (Unit.unit, (Unit.unit, (Unit.unit, ((0 : Int), ((0 : Int), Unit.unit))))))))))))), (([] : List (Prod ByteArray (Prod (Ty.El Ty.bool) (Ty.El tI)))), (([] : List Int), (([] : List (List Int)), (([] : List (List Int)), (([] : List Bool), Unit.unit)))))))) (0 : Int)) ∧ ((List.all (List.drop 1 (List.take (Int.toNat ((((List.length l) : Nat) : Int) - (3 : Int) : Int)) l)) (fun f => (decide ((ByteArray.size (f).1) ≤ 1000000000)))) = true))))))) (.ret (.nx, ⟨143, [(0, rL tFile l), (2, .e (.c (.np 2 0))), (4, .e (.c (.np 4 0)))], [(2, .cells 42 [.nil, .nil, .nil, .nil, .d (.v (.int .i64 (((((((putAcc ((Unit.unit, (Unit.unit, (Unit.unit, (Unit.unit, ((0 : Int), ((0 : Int), ((0 : Int), (Unit.unit, (Unit.unit, (Unit.unit, (Unit.unit, ((0 : Int), ((0 : Int), Unit.unit))))))))))))), ((pL, (pN, (Unit.unit, (Unit.unit, ((0 : Int), ((0 : Int), ((0 : Int), (Unit.unit, (Unit.unit, (Unit.unit, (Unit.unit, ((0 : Int), ((0 : Int), Unit.unit))))))))))))), (([] : List (Prod ByteArray (Prod Bool Int))), (([] : List Int), (([] : List (List Int)), (([] : List (List Int)), (([] : List Bool), Unit.unit))))))) (List.foldl addF (accOf ((Unit.unit, (Unit.unit, (Unit.unit, (Unit.unit, ((0 : Int), ((0 : Int), ((0 : Int), (Unit.unit, (Unit.unit, (Unit.unit, (Unit.unit, ((0 : Int), ((0 : Int), Unit.unit))))))))))))), ((pL, (pN, (Unit.unit, (Unit.unit, ((0 : Int), ((0 : Int), ((0 : Int), (Unit.unit, (Unit.unit, (Unit.unit, (Unit.unit, ((0 : Int), ((0 : Int), Unit.unit))))))))))))), (([] : List (Prod ByteArray (Prod Bool Int))), (([] : List Int), (([] : List (List Int)), (([] : List (List Int)), (([] : List Bool), Unit.unit)))))))) (List.drop 0 (List.drop 1 (List.take (Int.toNat ((((List.length l) : Nat) : Int) - (3 : Int) : Int)) l)))))).1).2).2).2).2).1)), .d (.v (.int .i64 ((((((((putAcc ((Unit.unit, (Unit.unit, (Unit.unit, (Unit.unit, ((0 : Int), ((0 : Int), ((0 : Int), (Unit.unit, (Unit.unit, (Unit.unit, (Unit.unit, ((0 : Int), ((0 : Int), Unit.unit))))))))))))), ((pL, (pN, (Unit.unit, (Unit.unit, ((0 : Int), ((0 : Int), ((0 : Int), (Unit.unit, (Unit.unit, (Unit.unit, (Unit.unit, ((0 : Int), ((0 : Int), Unit.unit))))))))))))), (([] : List (Prod ByteArray (Prod Bool Int))), (([] : List Int), (([] : List (List Int)), (([] : List (List Int)), (([] : List Bool), Unit.unit))))))) (List.foldl addF (accOf ((Unit.unit, (Unit.unit, (Unit.unit, (Unit.unit, ((0 : Int), ((0 : Int), ((0 : Int), (Unit.unit, (Unit.unit, (Unit.unit, (Unit.unit, ((0 : Int), ((0 : Int), Unit.unit))))))))))))), ((pL, (pN, (Unit.unit, (Unit.unit, ((0 : Int), ((0 : Int), ((0 : Int), (Unit.unit, (Unit.unit, (Unit.unit, (Unit.unit, ((0 : Int), ((0 : Int), Unit.unit))))))))))))), (([] : List (Prod ByteArray (Prod Bool Int))), (([] : List Int), (([] : List (List Int)), (([] : List (List Int)), (([] : List Bool), Unit.unit)))))))) (List.drop 0 (List.drop 1 (List.take (Int.toNat ((((List.length l) : Nat) : Int) - (3 : Int) : Int)) l)))))).1).2).2).2).2).2).1)), .d (.v (.int .i64 (((((((((putAcc ((Unit.unit, (Unit.unit, (Unit.unit, (Unit.unit, ((0 : Int), ((0 : Int), ((0 : Int), (Unit.unit, (Unit.unit, (Unit.unit, (Unit.unit, ((0 : Int), ((0 : Int), Unit.unit))))))))))))), ((pL, (pN, (Unit.unit, (Unit.unit, ((0 : Int), ((0 : Int), ((0 : Int), (Unit.unit, (Unit.unit, (Unit.unit, (Unit.unit, ((0 : Int), ((0 : Int), Unit.unit))))))))))))), (([] : List (Prod ByteArray (Prod Bool Int))), (([] : List Int), (([] : List (List Int)), (([] : List (List Int)), (([] : List Bool), Unit.unit))))))) (List.foldl addF (accOf ((Unit.unit, (Unit.unit, (Unit.unit, (Unit.unit, ((0 : Int), ((0 : Int), ((0 : Int), (Unit.unit, (Unit.unit, (Unit.unit, (Unit.unit, ((0 : Int), ((0 : Int), Unit.unit))))))))))))), ((pL, (pN, (Unit.unit, (Unit.unit, ((0 : Int), ((0 : Int), ((0 : Int), (Unit.unit, (Unit.unit, (Unit.unit, (Unit.unit, ((0 : Int), ((0 : Int), Unit.unit))))))))))))), (([] : List (Prod ByteArray (Prod Bool Int))), (([] : List Int), (([] : List (List Int)), (([] : List (List Int)), (([] : List Bool), Unit.unit)))))))) (List.drop 0 (List.drop 1 (List.take (Int.toNat ((((List.length l) : Nat) : Int) - (3 : Int) : Int)) l)))))).1).2).2).2).2).2).2).1)), .nil, .nil, .nil, .nil, .d (.v (.int .i64 ((((((((((((((putAcc ((Unit.unit, (Unit.unit, (Unit.unit, (Unit.unit, ((0 : Int), ((0 : Int), ((0 : Int), (Unit.unit, (Unit.unit, (Unit.unit, (Unit.unit, ((0 : Int), ((0 : Int), Unit.unit))))))))))))), ((pL, (pN, (Unit.unit, (Unit.unit, ((0 : Int), ((0 : Int), ((0 : Int), (Unit.unit, (Unit.unit, (Unit.unit, (Unit.unit, ((0 : Int), ((0 : Int), Unit.unit))))))))))))), (([] : List (Prod ByteArray (Prod Bool Int))), (([] : List Int), (([] : List (List Int)), (([] : List (List Int)), (([] : List Bool), Unit.unit))))))) (List.foldl addF (accOf ((Unit.unit, (Unit.unit, (Unit.unit, (Unit.unit, ((0 : Int), ((0 : Int), ((0 : Int), (Unit.unit, (Unit.unit, (Unit.unit, (Unit.unit, ((0 : Int), ((0 : Int), Unit.unit))))))))))))), ((pL, (pN, (Unit.unit, (Unit.unit, ((0 : Int), ((0 : Int), ((0 : Int), (Unit.unit, (Unit.unit, (Unit.unit, (Unit.unit, ((0 : Int), ((0 : Int), Unit.unit))))))))))))), (([] : List (Prod ByteArray (Prod Bool Int))), (([] : List Int), (([] : List (List Int)), (([] : List (List Int)), (([] : List Bool), Unit.unit)))))))) (List.drop 0 (List.drop 1 (List.take (Int.toNat ((((List.length l) : Nat) : Int) - (3 : Int) : Int)) l)))))).1).2).2).2).2).2).2).2).2).2).2).2).1)), .d (.v (.int .u16 (((((((((((((((putAcc ((Unit.unit, (Unit.unit, (Unit.unit, (Unit.unit, ((0 : Int), ((0 : Int), ((0 : Int), (Unit.unit, (Unit.unit, (Unit.unit, (Unit.unit, ((0 : Int), ((0 : Int), Unit.unit))))))))))))), ((pL, (pN, (Unit.unit, (Unit.unit, ((0 : Int), ((0 : Int), ((0 : Int), (Unit.unit, (Unit.unit, (Unit.unit, (Unit.unit, ((0 : Int), ((0 : Int), Unit.unit))))))))))))), (([] : List (Prod ByteArray (Prod Bool Int))), (([] : List Int), (([] : List (List Int)), (([] : List (List Int)), (([] : List Bool), Unit.unit))))))) (List.foldl addF (accOf ((Unit.unit, (Unit.unit, (Unit.unit, (Unit.unit, ((0 : Int), ((0 : Int), ((0 : Int), (Unit.unit, (Unit.unit, (Unit.unit, (Unit.unit, ((0 : Int), ((0 : Int), Unit.unit))))))))))))), ((pL, (pN, (Unit.unit, (Unit.unit, ((0 : Int), ((0 : Int), ((0 : Int), (Unit.unit, (Unit.unit, (Unit.unit, (Unit.unit, ((0 : Int), ((0 : Int), Unit.unit))))))))))))), (([] : List (Prod ByteArray (Prod Bool Int))), (([] : List Int), (([] : List (List Int)), (([] : List (List Int)), (([] : List Bool), Unit.unit)))))))) (List.drop 0 (List.drop 1 (List.take (Int.toNat ((((List.length l) : Nat) : Int) - (3 : Int) : Int)) l)))))).1).2).2).2).2).2).2).2).2).2).2).2).2).1))]), (4, .cells 42 [.d (.sl tInst ((((putAcc ((Unit.unit, (Unit.unit, (Unit.unit, (Unit.unit, ((0 : Int), ((0 : Int), ((0 : Int), (Unit.unit, (Unit.unit, (Unit.unit, (Unit.unit, ((0 : Int), ((0 : Int), Unit.unit))))))))))))), ((pL, (pN, (Unit.unit, (Unit.unit, ((0 : Int), ((0 : Int), ((0 : Int), (Unit.unit, (Unit.unit, (Unit.unit, (Unit.unit, ((0 : Int), ((0 : Int), Unit.unit))))))))))))), (([] : List (Prod ByteArray (Prod Bool Int))), (([] : List Int), (([] : List (List Int)), (([] : List (List Int)), (([] : List Bool), Unit.unit))))))) (List.foldl addF (accOf ((Unit.unit, (Unit.unit, (Unit.unit, (Unit.unit, ((0 : Int), ((0 : Int), ((0 : Int), (Unit.unit, (Unit.unit, (Unit.unit, (Unit.unit, ((0 : Int), ((0 : Int), Unit.unit))))))))))))), ((pL, (pN, (Unit.unit, (Unit.unit, ((0 : Int), ((0 : Int), ((0 : Int), (Unit.unit, (Unit.unit, (Unit.unit, (Unit.unit, ((0 : Int), ((0 : Int), Unit.unit))))))))))))), (([] : List (Prod ByteArray (Prod Bool Int))), (([] : List Int), (([] : List (List Int)), (([] : List (List Int)), (([] : List Bool), Unit.unit)))))))) (List.drop 0 (List.drop 1 (List.take (Int.toNat ((((List.length l) : Nat) : Int) - (3 : Int) : Int)) l)))))).2).1).1), .d (.sl Ty.str (((((putAcc ((Unit.unit, (Unit.unit, (Unit.unit, (Unit.unit, ((0 : Int), ((0 : Int), ((0 : Int), (Unit.unit, (Unit.unit, (Unit.unit, (Unit.unit, ((0 : Int), ((0 : Int), Unit.unit))))))))))))), ((pL, (pN, (Unit.unit, (Unit.unit, ((0 : Int), ((0 : Int), ((0 : Int), (Unit.unit, (Unit.unit, (Unit.unit, (Unit.unit, ((0 : Int), ((0 : Int), Unit.unit))))))))))))), (([] : List (Prod ByteArray (Prod Bool Int))), (([] : List Int), (([] : List (List Int)), (([] : List (List Int)), (([] : List Bool), Unit.unit))))))) (List.foldl addF (accOf ((Unit.unit, (Unit.unit, (Unit.unit, (Unit.unit, ((0 : Int), ((0 : Int), ((0 : Int), (Unit.unit, (Unit.unit, (Unit.unit, (Unit.unit, ((0 : Int), ((0 : Int), Unit.unit))))))))))))), ((pL, (pN, (Unit.unit, (Unit.unit, ((0 : Int), ((0 : Int), ((0 : Int), (Unit.unit, (Unit.unit, (Unit.unit, (Unit.unit, ((0 : Int), ((0 : Int), Unit.unit))))))))))))), (([] : List (Prod ByteArray (Prod Bool Int))), (([] : List Int), (([] : List (List Int)), (([] : List (List Int)), (([] : List Bool), Unit.unit)))))))) (List.drop 0 (List.drop 1 (List.take (Int.toNat ((((List.length l) : Nat) : Int) - (3 : Int) : Int)) l)))))).2).1).2).1), .row 1000004002, .row 1000004003, .d (.v (.int .i64 ((((((((putAcc ((Unit.unit, (Unit.unit, (Unit.unit, (Unit.unit, ((0 : Int), ((0 : Int), ((0 : Int), (Unit.unit, (Unit.unit, (Unit.unit, (Unit.unit, ((0 : Int), ((0 : Int), Unit.unit))))))))))))), ((pL, (pN, (Unit.unit, (Unit.unit, ((0 : Int), ((0 : Int), ((0 : Int), (Unit.unit, (Unit.unit, (Unit.unit, (Unit.unit, ((0 : Int), ((0 : Int), Unit.unit))))))))))))), (([] : List (Prod ByteArray (Prod Bool Int))), (([] : List Int), (([] : List (List Int)), (([] : List (List Int)), (([] : List Bool), Unit.unit))))))) (List.foldl addF (accOf ((Unit.unit, (Unit.unit, (Unit.unit, (Unit.unit, ((0 : Int), ((0 : Int), ((0 : Int), (Unit.unit, (Unit.unit, (Unit.unit, (Unit.unit, ((0 : Int), ((0 : Int), Unit.unit))))))))))))), ((pL, (pN, (Unit.unit, (Unit.unit, ((0 : Int), ((0 : Int), ((0 : Int), (Unit.unit, (Unit.unit, (Unit.unit, (Unit.unit, ((0 : Int), ((0 : Int), Unit.unit))))))))))))), (([] : List (Prod ByteArray (Prod Bool Int))), (([] : List Int), (([] : List (List Int)), (([] : List (List Int)), (([] : List Bool), Unit.unit)))))))) (List.drop 0 (List.drop 1 (List.take (Int.toNat ((((List.length l) : Nat) : Int) - (3 : Int) : Int)) l)))))).2).1).2).2).2).2).1)), .d (.v (.int .i64 (((((((((putAcc ((Unit.unit, (Unit.unit, (Unit.unit, (Unit.unit, ((0 : Int), ((0 : Int), ((0 : Int), (Unit.unit, (Unit.unit, (Unit.unit, (Unit.unit, ((0 : Int), ((0 : Int), Unit.unit))))))))))))), ((pL, (pN, (Unit.unit, (Unit.unit, ((0 : Int), ((0 : Int), ((0 : Int), (Unit.unit, (Unit.unit, (Unit.unit, (Unit.unit, ((0 : Int), ((0 : Int), Unit.unit))))))))))))), (([] : List (Prod ByteArray (Prod Bool Int))), (([] : List Int), (([] : List (List Int)), (([] : List (List Int)), (([] : List Bool), Unit.unit))))))) (List.foldl addF (accOf ((Unit.unit, (Unit.unit, (Unit.unit, (Unit.unit, ((0 : Int), ((0 : Int), ((0 : Int), (Unit.unit, (Unit.unit, (Unit.unit, (Unit.unit, ((0 : Int), ((0 : Int), Unit.unit))))))))))))), ((pL, (pN, (Unit.unit, (Unit.unit, ((0 : Int), ((0 : Int), ((0 : Int), (Unit.unit, (Unit.unit, (Unit.unit, (Unit.unit, ((0 : Int), ((0 : Int), Unit.unit))))))))))))), (([] : List (Prod ByteArray (Prod Bool Int))), (([] : List Int), (([] : List (List Int)), (([] : List (List Int)), (([] : List Bool), Unit.unit)))))))) (List.drop 0 (List.drop 1 (List.take (Int.toNat ((((List.length l) : Nat) : Int) - (3 : Int) : Int)) l)))))).2).1).2).2).2).2).2).1)), .d (.v (.int .i64 ((((((((((putAcc ((Unit.unit, (Unit.unit, (Unit.unit, (Unit.unit, ((0 : Int), ((0 : Int), ((0 : Int), (Unit.unit, (Unit.unit, (Unit.unit, (Unit.unit, ((0 : Int), ((0 : Int), Unit.unit))))))))))))), ((pL, (pN, (Unit.unit, (Unit.unit, ((0 : Int), ((0 : Int), ((0 : Int), (Unit.unit, (Unit.unit, (Unit.unit, (Unit.unit, ((0 : Int), ((0 : Int), Unit.unit))))))))))))), (([] : List (Prod ByteArray (Prod Bool Int))), (([] : List Int), (([] : List (List Int)), (([] : List (List Int)), (([] : List Bool), Unit.unit))))))) (List.foldl addF (accOf ((Unit.unit, (Unit.unit, (Unit.unit, (Unit.unit, ((0 : Int), ((0 : Int), ((0 : Int), (Unit.unit, (Unit.unit, (Unit.unit, (Unit.unit, ((0 : Int), ((0 : Int), Unit.unit))))))))))))), ((pL, (pN, (Unit.unit, (Unit.unit, ((0 : Int), ((0 : Int), ((0 : Int), (Unit.unit, (Unit.unit, (Unit.unit, (Unit.unit, ((0 : Int), ((0 : Int), Unit.unit))))))))))))), (([] : List (Prod ByteArray (Prod Bool Int))), (([] : List Int), (([] : List (List Int)), (([] : List (List Int)), (([] : List Bool), Unit.unit)))))))) (List.drop 0 (List.drop 1 (List.take (Int.toNat ((((List.length l) : Nat) : Int) - (3 : Int) : Int)) l)))))).2).1).2).2).2).2).2).2).1)), .row 1000004007, .row 1000004008, .row 1000004009, .nil, .d (.v (.int .i64 (((((((((((((((putAcc ((Unit.unit, (Unit.unit, (Unit.unit, (Unit.unit, ((0 : Int), ((0 : Int), ((0 : Int), (Unit.unit, (Unit.unit, (Unit.unit, (Unit.unit, ((0 : Int), ((0 : Int), Unit.unit))))))))))))), ((pL, (pN, (Unit.unit, (Unit.unit, ((0 : Int), ((0 : Int), ((0 : Int), (Unit.unit, (Unit.unit, (Unit.unit, (Unit.unit, ((0 : Int), ((0 : Int), Unit.unit))))))))))))), (([] : List (Prod ByteArray (Prod Bool Int))), (([] : List Int), (([] : List (List Int)), (([] : List (List Int)), (([] : List Bool), Unit.unit))))))) (List.foldl addF (accOf ((Unit.unit, (Unit.unit, (Unit.unit, (Unit.unit, ((0 : Int), ((0 : Int), ((0 : Int), (Unit.unit, (Unit.unit, (Unit.unit, (Unit.unit, ((0 : Int), ((0 : Int), Unit.unit))))))))))))), ((pL, (pN, (Unit.unit, (Unit.unit, ((0 : Int), ((0 : Int), ((0 : Int), (Unit.unit, (Unit.unit, (Unit.unit, (Unit.unit, ((0 : Int), ((0 : Int), Unit.unit))))))))))))), (([] : List (Prod ByteArray (Prod Bool Int))), (([] : List Int), (([] : List (List Int)), (([] : List (List Int)), (([] : List Bool), Unit.unit)))))))) (List.drop 0 (List.drop 1 (List.take (Int.toNat ((((List.length l) : Nat) : Int) - (3 : Int) : Int)) l)))))).2).1).2).2).2).2).2).2).2).2).2).2).2).1)), .d (.v (.int .u16 ((((((((((((((((putAcc ((Unit.unit, (Unit.unit, (Unit.unit, (Unit.unit, ((0 : Int), ((0 : Int), ((0 : Int), (Unit.unit, (Unit.unit, (Unit.unit, (Unit.unit, ((0 : Int), ((0 : Int), Unit.unit))))))))))))), ((pL, (pN, (Unit.unit, (Unit.unit, ((0 : Int), ((0 : Int), ((0 : Int), (Unit.unit, (Unit.unit, (Unit.unit, (Unit.unit, ((0 : Int), ((0 : Int), Unit.unit))))))))))))), (([] : List (Prod ByteArray (Prod Bool Int))), (([] : List Int), (([] : List (List Int)), (([] : List (List Int)), (([] : List Bool), Unit.unit))))))) (List.foldl addF (accOf ((Unit.unit, (Unit.unit, (Unit.unit, (Unit.unit, ((0 : Int), ((0 : Int), ((0 : Int), (Unit.unit, (Unit.unit, (Unit.unit, (Unit.unit, ((0 : Int), ((0 : Int), Unit.unit))))))))))))), ((pL, (pN, (Unit.unit, (Unit.unit, ((0 : Int), ((0 : Int), ((0 : Int), (Unit.unit, (Unit.unit, (Unit.unit, (Unit.unit, ((0 : Int), ((0 : Int), Unit.unit))))))))))))), (([] : List (Prod ByteArray (Prod Bool Int))), (([] : List Int), (([] : List (List Int)), (([] : List (List Int)), (([] : List Bool), Unit.unit)))))))) (List.drop 0 (List.drop 1 (List.take (Int.toNat ((((List.length l) : Nat) : Int) - (3 : Int) : Int)) l)))))).2).1).2).2).2).2).2).2).2).2).2).2).2).2).1))]), (1000004002, .row tEnt 84 ((((putAcc ((Unit.unit, (Unit.unit, (Unit.unit, (Unit.unit, ((0 : Int), ((0 : Int), ((0 : Int), (Unit.unit, (Unit.unit, (Unit.unit, (Unit.unit, ((0 : Int), ((0 : Int), Unit.unit))))))))))))), ((pL, (pN, (Unit.unit, (Unit.unit, ((0 : Int), ((0 : Int), ((0 : Int), (Unit.unit, (Unit.unit, (Unit.unit, (Unit.unit, ((0 : Int), ((0 : Int), Unit.unit))))))))))))), (([] : List (Prod ByteArray (Prod Bool Int))), (([] : List Int), (([] : List (List Int)), (([] : List (List Int)), (([] : List Bool), Unit.unit))))))) (List.foldl addF (accOf ((Unit.unit, (Unit.unit, (Unit.unit, (Unit.unit, ((0 : Int), ((0 : Int), ((0 : Int), (Unit.unit, (Unit.unit, (Unit.unit, (Unit.unit, ((0 : Int), ((0 : Int), Unit.unit))))))))))))), ((pL, (pN, (Unit.unit, (Unit.unit, ((0 : Int), ((0 : Int), ((0 : Int), (Unit.unit, (Unit.unit, (Unit.unit, (Unit.unit, ((0 : Int), ((0 : Int), Unit.unit))))))))))))), (([] : List (Prod ByteArray (Prod Bool Int))), (([] : List Int), (([] : List (List Int)), (([] : List (List Int)), (([] : List Bool), Unit.unit)))))))) (List.drop 0 (List.drop 1 (List.take (Int.toNat ((((List.length l) : Nat) : Int) - (3 : Int) : Int)) l)))))).2).2).1), (1000004003, .row tI 3 (((((putAcc ((Unit.unit, (Unit.unit, (Unit.unit, (Unit.unit, ((0 : Int), ((0 : Int), ((0 : Int), (Unit.unit, (Unit.unit, (Unit.unit, (Unit.unit, ((0 : Int), ((0 : Int), Unit.unit))))))))))))), ((pL, (pN, (Unit.unit, (Unit.unit, ((0 : Int), ((0 : Int), ((0 : Int), (Unit.unit, (Unit.unit, (Unit.unit, (Unit.unit, ((0 : Int), ((0 : Int), Unit.unit))))))))))))), (([] : List (Prod ByteArray (Prod Bool Int))), (([] : List Int), (([] : List (List Int)), (([] : List (List Int)), (([] : List Bool), Unit.unit))))))) (List.foldl addF (accOf ((Unit.unit, (Unit.unit, (Unit.unit, (Unit.unit, ((0 : Int), ((0 : Int), ((0 : Int), (Unit.unit, (Unit.unit, (Unit.unit, (Unit.unit, ((0 : Int), ((0 : Int), Unit.unit))))))))))))), ((pL, (pN, (Unit.unit, (Unit.unit, ((0 : Int), ((0 : Int), ((0 : Int), (Unit.unit, (Unit.unit, (Unit.unit, (Unit.unit, ((0 : Int), ((0 : Int), Unit.unit))))))))))))), (([] : List (Prod ByteArray (Prod Bool Int))), (([] : List Int), (([] : List (List Int)), (([] : List (List Int)), (([] : List Bool), Unit.unit)))))))) (List.drop 0 (List.drop 1 (List.take (Int.toNat ((((List.length l) : Nat) : Int) - (3 : Int) : Int)) l)))))).2).2).2).1), (1000004007, .row tB 43 ((((((putAcc ((Unit.unit, (Unit.unit, (Unit.unit, (Unit.unit, ((0 : Int), ((0 : Int), ((0 : Int), (Unit.unit, (Unit.unit, (Unit.unit, (Unit.unit, ((0 : Int), ((0 : Int), Unit.unit))))))))))))), ((pL, (pN, (Unit.unit, (Unit.unit, ((0 : Int), ((0 : Int), ((0 : Int), (Unit.unit, (Unit.unit, (Unit.unit, (Unit.unit, ((0 : Int), ((0 : Int), Unit.unit))))))))))))), (([] : List (Prod ByteArray (Prod Bool Int))), (([] : List Int), (([] : List (List Int)), (([] : List (List Int)), (([] : List Bool), Unit.unit))))))) (List.foldl addF (accOf ((Unit.unit, (Unit.unit, (Unit.unit, (Unit.unit, ((0 : Int), ((0 : Int), ((0 : Int), (Unit.unit, (Unit.unit, (Unit.unit, (Unit.unit, ((0 : Int), ((0 : Int), Unit.unit))))))))))))), ((pL, (pN, (Unit.unit, (Unit.unit, ((0 : Int), ((0 : Int), ((0 : Int), (Unit.unit, (Unit.unit, (Unit.unit, (Unit.unit, ((0 : Int), ((0 : Int), Unit.unit))))))))))))), (([] : List (Prod ByteArray (Prod Bool Int))), (([] : List Int), (([] : List (List Int)), (([] : List (List Int)), (([] : List Bool), Unit.unit)))))))) (List.drop 0 (List.drop 1 (List.take (Int.toNat ((((List.length l) : Nat) : Int) - (3 : Int) : Int)) l)))))).2).2).2).2).1), (1000004008, .row tB 43 (((((((putAcc ((Unit.unit, (Unit.unit, (Unit.unit, (Unit.unit, ((0 : Int), ((0 : Int), ((0 : Int), (Unit.unit, (Unit.unit, (Unit.unit, (Unit.unit, ((0 : Int), ((0 : Int), Unit.unit))))))))))))), ((pL, (pN, (Unit.unit, (Unit.unit, ((0 : Int), ((0 : Int), ((0 : Int), (Unit.unit, (Unit.unit, (Unit.unit, (Unit.unit, ((0 : Int), ((0 : Int), Unit.unit))))))))))))), (([] : List (Prod ByteArray (Prod Bool Int))), (([] : List Int), (([] : List (List Int)), (([] : List (List Int)), (([] : List Bool), Unit.unit))))))) (List.foldl addF (accOf ((Unit.unit, (Unit.unit, (Unit.unit, (Unit.unit, ((0 : Int), ((0 : Int), ((0 : Int), (Unit.unit, (Unit.unit, (Unit.unit, (Unit.unit, ((0 : Int), ((0 : Int), Unit.unit))))))))))))), ((pL, (pN, (Unit.unit, (Unit.unit, ((0 : Int), ((0 : Int), ((0 : Int), (Unit.unit, (Unit.unit, (Unit.unit, (Unit.unit, ((0 : Int), ((0 : Int), Unit.unit))))))))))))), (([] : List (Prod ByteArray (Prod Bool Int))), (([] : List Int), (([] : List (List Int)), (([] : List (List Int)), (([] : List Bool), Unit.unit)))))))) (List.drop 0 (List.drop 1 (List.take (Int.toNat ((((List.length l) : Nat) : Int) - (3 : Int) : Int)) l)))))).2).2).2).2).2).1), (1000004009, .row Ty.bool 4 ((((((((putAcc ((Unit.unit, (Unit.unit, (Unit.unit, (Unit.unit, ((0 : Int), ((0 : Int), ((0 : Int), (Unit.unit, (Unit.unit, (Unit.unit, (Unit.unit, ((0 : Int), ((0 : Int), Unit.unit))))))))))))), ((pL, (pN, (Unit.unit, (Unit.unit, ((0 : Int), ((0 : Int), ((0 : Int), (Unit.unit, (Unit.unit, (Unit.unit, (Unit.unit, ((0 : Int), ((0 : Int), Unit.unit))))))))))))), (([] : List (Prod ByteArray (Prod Bool Int))), (([] : List Int), (([] : List (List Int)), (([] : List (List Int)), (([] : List Bool), Unit.unit))))))) (List.foldl addF (accOf ((Unit.unit, (Unit.unit, (Unit.unit, (Unit.unit, ((0 : Int), ((0 : Int), ((0 : Int), (Unit.unit, (Unit.unit, (Unit.unit, (Unit.unit, ((0 : Int), ((0 : Int), Unit.unit))))))))))))), ((pL, (pN, (Unit.unit, (Unit.unit, ((0 : Int), ((0 : Int), ((0 : Int), (Unit.unit, (Unit.unit, (Unit.unit, (Unit.unit, ((0 : Int), ((0 : Int), Unit.unit))))))))))))), (([] : List (Prod ByteArray (Prod Bool Int))), (([] : List Int), (([] : List (List Int)), (([] : List (List Int)), (([] : List Bool), Unit.unit)))))))) (List.drop 0 (List.drop 1 (List.take (Int.toNat ((((List.length l) : Nat) : Int) - (3 : Int) : Int)) l)))))).2).2).2).2).2).2).1)]⟩))))) (by kernel_rfl) ?_
  have e3 : ((l.length : Int) - 3).toNat = l.length - 3 := by omega
  rw [e3]
  have hml : ((l.take (l.length - 3)).drop 1).length ≤ 1000000 := by rw [List.length_drop, List.length_take]; omega
  have hmall : (((l.take (l.length - 3)).drop 1).all fun f : File => decide (f.1.size ≤ 1000000000)) = true := List.all_eq_true.2 fun f hf => by
    simp only [madeOk, Bool.and_eq_true] at hok
    have := List.all_eq_true.1 hok.2 f (List.mem_of_mem_take (List.mem_of_mem_drop hf))
    simp only [Bool.and_eq_true] at this
    exact this.1.1
  refine .lnd (by omega) (.lneed (by simp [okB]; omega) (.lnd ⟨rfl, by omega, by omega, by omega, ⟨Int.le_refl _, Int.le_refl _, Int.le_refl _, Int.le_refl _⟩, hmall⟩ ?_))
  refine Gives.goto (σ' := q30x.st ((l, (), (), ()), (z13, (pL, pN, (), (), (0 : Int), (0 : Int), (0 : Int), (), (), (), (), (0 : Int), (0 : Int), ()), (accF l).1, (accF l).2.1, (accF l).2.2.1, (accF l).2.2.2, [], ()))) (by rw [List.drop_zero]; rfl) ?_
  have hA := accF_len l
  unfold unkOf
  generalize accF l = A at hA ⊢
  obtain ⟨t, ar, fs, fa⟩ := A
  refine Gives.seq (by kernel_rfl) ?_
  refine Gives.run (t' := .need (decide (((-(9223372036854775808 : Int) : Int) ≤ ((((List.length l) : Nat) : Int) - (3 : Int) : Int)) ∧ (((((List.length l) : Nat) : Int) - (3 : Int) : Int) ≤ (9223372036854775807 : Int)))) (.need (inR ((((List.length l) : Nat) : Int) - (3 : Int) : Int) (List.length l)) (.need (decide (((((List.length (((List.getD l (Int.toNat ((((List.length l) : Nat) : Int) - (3 : Int) : Int)) (ByteArray.empty, (false, ([] : List Int))))).2).2) : Nat) : Int) = (((List.length (((List.getD l (Int.toNat ((((List.length l) : Nat) : Int) - (3 : Int) : Int)) (ByteArray.empty, (false, ([] : List Int))))).2).2) : Nat) : Int)) ∧ (((((List.length (((List.getD l (Int.toNat ((((List.length l) : Nat) : Int) - (3 : Int) : Int)) (ByteArray.empty, (false, ([] : List Int))))).2).2) : Nat) : Int) ≤ (1000000000 : Int)) ∧ (((0 : Int) ≤ (0 : Int)) ∧ (((0 : Int) ≤ (((List.length (((List.getD l (Int.toNat ((((List.length l) : Nat) : Int) - (3 : Int) : Int)) (ByteArray.empty, (false, ([] : List Int))))).2).2) : Nat) : Int)) ∧ ((((List.length ([] : List Bool)) : Nat) : Int) ≤ (0 : Int))))))) (.ret (.nx, ⟨143, [(0, rL tFile l), (2, .e (.c (.np 2 0))), (4, .e (.c (.np 4 0)))], [(2, .cells 42 [.nil, .nil, .nil, .nil, .d (.v (.int .i64 (((((((putFl ((Unit.unit, (Unit.unit, (Unit.unit, (Unit.unit, ((((((z13).2).2).2).2).1, (((((((z13).2).2).2).2).2).1, ((((((((z13).2).2).2).2).2).2).1, (Unit.unit, (Unit.unit, (Unit.unit, (Unit.unit, (((((((((((((z13).2).2).2).2).2).2).2).2).2).2).2).1, ((((((((((((((z13).2).2).2).2).2).2).2).2).2).2).2).2).1, Unit.unit))))))))))))), ((pL, (pN, (Unit.unit, (Unit.unit, ((0 : Int), ((0 : Int), ((0 : Int), (Unit.unit, (Unit.unit, (Unit.unit, (Unit.unit, ((0 : Int), ((0 : Int), Unit.unit))))))))))))), (t, (ar, (fs, (fa, (([] : List Bool), Unit.unit))))))) (([] : List Bool) ++ (List.map (fun x => (x == (1 : Int))) (List.drop 0 (((List.getD l (Int.toNat ((((List.length l) : Nat) : Int) - (3 : Int) : Int)) (ByteArray.empty, (false, ([] : List Int))))).2).2))))).1).2).2).2).2).1)), .d (.v (.int .i64 ((((((((putFl ((Unit.unit, (Unit.unit, (Unit.unit, (Unit.unit, ((((((z13).2).2).2).2).1, (((((((z13).2).2).2).2).2).1, ((((((((z13).2).2).2).2).2).2).1, (Unit.unit, (Unit.unit, (Unit.unit, (Unit.unit, (((((((((((((z13).2).2).2).2).2).2).2).2).2).2).2).1, ((((((((((((((z13).2).2).2).2).2).2).2).2).2).2).2).2).1, Unit.unit))))))))))))), ((pL, (pN, (Unit.unit, (Unit.unit, ((0 : Int), ((0 : Int), ((0 : Int), (Unit.unit, (Unit.unit, (Unit.unit, (Unit.unit, ((0 : Int), ((0 : Int), Unit.unit))))))))))))), (t, (ar, (fs, (fa, (([] : List Bool), Unit.unit))))))) (([] : List Bool) ++ (List.map (fun x => (x == (1 : Int))) (List.drop 0 (((List.getD l (Int.toNat ((((List.length l) : Nat) : Int) - (3 : Int) : Int)) (ByteArray.empty, (false, ([] : List Int))))).2).2))))).1).2).2).2).2).2).1)), .d (.v (.int .i64 (((((((((putFl ((Unit.unit, (Unit.unit, (Unit.unit, (Unit.unit, ((((((z13).2).2).2).2).1, (((((((z13).2).2).2).2).2).1, ((((((((z13).2).2).2).2).2).2).1, (Unit.unit, (Unit.unit, (Unit.unit, (Unit.unit, (((((((((((((z13).2).2).2).2).2).2).2).2).2).2).2).1, ((((((((((((((z13).2).2).2).2).2).2).2).2).2).2).2).2).1, Unit.unit))))))))))))), ((pL, (pN, (Unit.unit, (Unit.unit, ((0 : Int), ((0 : Int), ((0 : Int), (Unit.unit, (Unit.unit, (Unit.unit, (Unit.unit, ((0 : Int), ((0 : Int), Unit.unit))))))))))))), (t, (ar, (fs, (fa, (([] : List Bool), Unit.unit))))))) (([] : List Bool) ++ (List.map (fun x => (x == (1 : Int))) (List.drop 0 (((List.getD l (Int.toNat ((((List.length l) : Nat) : Int) - (3 : Int) : Int)) (ByteArray.empty, (false, ([] : List Int))))).2).2))))).1).2).2).2).2).2).2).1)), .nil, .nil, .nil, .nil, .d (.v (.int .i64 ((((((((((((((putFl ((Unit.unit, (Unit.unit, (Unit.unit, (Unit.unit, ((((((z13).2).2).2).2).1, (((((((z13).2).2).2).2).2).1, ((((((((z13).2).2).2).2).2).2).1, (Unit.unit, (Unit.unit, (Unit.unit, (Unit.unit, (((((((((((((z13).2).2).2).2).2).2).2).2).2).2).2).1, ((((((((((((((z13).2).2).2).2).2).2).2).2).2).2).2).2).1, Unit.unit))))))))))))), ((pL, (pN, (Unit.unit, (Unit.unit, ((0 : Int), ((0 : Int), ((0 : Int), (Unit.unit, (Unit.unit, (Unit.unit, (Unit.unit, ((0 : Int), ((0 : Int), Unit.unit))))))))))))), (t, (ar, (fs, (fa, (([] : List Bool), Unit.unit))))))) (([] : List Bool) ++ (List.map (fun x => (x == (1 : Int))) (List.drop 0 (((List.getD l (Int.toNat ((((List.length l) : Nat) : Int) - (3 : Int) : Int)) (ByteArray.empty, (false, ([] : List Int))))).2).2))))).1).2).2).2).2).2).2).2).2).2).2).2).1)), .d (.v (.int .u16 (((((((((((((((putFl ((Unit.unit, (Unit.unit, (Unit.unit, (Unit.unit, ((((((z13).2).2).2).2).1, (((((((z13).2).2).2).2).2).1, ((((((((z13).2).2).2).2).2).2).1, (Unit.unit, (Unit.unit, (Unit.unit, (Unit.unit, (((((((((((((z13).2).2).2).2).2).2).2).2).2).2).2).1, ((((((((((((((z13).2).2).2).2).2).2).2).2).2).2).2).2).1, Unit.unit))))))))))))), ((pL, (pN, (Unit.unit, (Unit.unit, ((0 : Int), ((0 : Int), ((0 : Int), (Unit.unit, (Unit.unit, (Unit.unit, (Unit.unit, ((0 : Int), ((0 : Int), Unit.unit))))))))))))), (t, (ar, (fs, (fa, (([] : List Bool), Unit.unit))))))) (([] : List Bool) ++ (List.map (fun x => (x == (1 : Int))) (List.drop 0 (((List.getD l (Int.toNat ((((List.length l) : Nat) : Int) - (3 : Int) : Int)) (ByteArray.empty, (false, ([] : List Int))))).2).2))))).1).2).2).2).2).2).2).2).2).2).2).2).2).1))]), (4, .cells 42 [.d (.sl tInst ((((putFl ((Unit.unit, (Unit.unit, (Unit.unit, (Unit.unit, ((((((z13).2).2).2).2).1, (((((((z13).2).2).2).2).2).1, ((((((((z13).2).2).2).2).2).2).1, (Unit.unit, (Unit.unit, (Unit.unit, (Unit.unit, (((((((((((((z13).2).2).2).2).2).2).2).2).2).2).2).1, ((((((((((((((z13).2).2).2).2).2).2).2).2).2).2).2).2).1, Unit.unit))))))))))))), ((pL, (pN, (Unit.unit, (Unit.unit, ((0 : Int), ((0 : Int), ((0 : Int), (Unit.unit, (Unit.unit, (Unit.unit, (Unit.unit, ((0 : Int), ((0 : Int), Unit.unit))))))))))))), (t, (ar, (fs, (fa, (([] : List Bool), Unit.unit))))))) (([] : List Bool) ++ (List.map (fun x => (x == (1 : Int))) (List.drop 0 (((List.getD l (Int.toNat ((((List.length l) : Nat) : Int) - (3 : Int) : Int)) (ByteArray.empty, (false, ([] : List Int))))).2).2))))).2).1).1), .d (.sl Ty.str (((((putFl ((Unit.unit, (Unit.unit, (Unit.unit, (Unit.unit, ((((((z13).2).2).2).2).1, (((((((z13).2).2).2).2).2).1, ((((((((z13).2).2).2).2).2).2).1, (Unit.unit, (Unit.unit, (Unit.unit, (Unit.unit, (((((((((((((z13).2).2).2).2).2).2).2).2).2).2).2).1, ((((((((((((((z13).2).2).2).2).2).2).2).2).2).2).2).2).1, Unit.unit))))))))))))), ((pL, (pN, (Unit.unit, (Unit.unit, ((0 : Int), ((0 : Int), ((0 : Int), (Unit.unit, (Unit.unit, (Unit.unit, (Unit.unit, ((0 : Int), ((0 : Int), Unit.unit))))))))))))), (t, (ar, (fs, (fa, (([] : List Bool), Unit.unit))))))) (([] : List Bool) ++ (List.map (fun x => (x == (1 : Int))) (List.drop 0 (((List.getD l (Int.toNat ((((List.length l) : Nat) : Int) - (3 : Int) : Int)) (ByteArray.empty, (false, ([] : List Int))))).2).2))))).2).1).2).1), .row 1000004002, .row 1000004003, .d (.v (.int .i64 ((((((((putFl ((Unit.unit, (Unit.unit, (Unit.unit, (Unit.unit, ((((((z13).2).2).2).2).1, (((((((z13).2).2).2).2).2).1, ((((((((z13).2).2).2).2).2).2).1, (Unit.unit, (Unit.unit, (Unit.unit, (Unit.unit, (((((((((((((z13).2).2).2).2).2).2).2).2).2).2).2).1, ((((((((((((((z13).2).2).2).2).2).2).2).2).2).2).2).2).1, Unit.unit))))))))))))), ((pL, (pN, (Unit.unit, (Unit.unit, ((0 : Int), ((0 : Int), ((0 : Int), (Unit.unit, (Unit.unit, (Unit.unit, (Unit.unit, ((0 : Int), ((0 : Int), Unit.unit))))))))))))), (t, (ar, (fs, (fa, (([] : List Bool), Unit.unit))))))) (([] : List Bool) ++ (List.map (fun x => (x == (1 : Int))) (List.drop 0 (((List.getD l (Int.toNat ((((List.length l) : Nat) : Int) - (3 : Int) : Int)) (ByteArray.empty, (false, ([] : List Int))))).2).2))))).2).1).2).2).2).2).1)), .d (.v (.int .i64 (((((((((putFl ((Unit.unit, (Unit.unit, (Unit.unit, (Unit.unit, ((((((z13).2).2).2).2).1, (((((((z13).2).2).2).2).2).1, ((((((((z13).2).2).2).2).2).2).1, (Unit.unit, (Unit.unit, (Unit.unit, (Unit.unit, (((((((((((((z13).2).2).2).2).2).2).2).2).2).2).2).1, ((((((((((((((z13).2).2).2).2).2).2).2).2).2).2).2).2).1, Unit.unit))))))))))))), ((pL, (pN, (Unit.unit, (Unit.unit, ((0 : Int), ((0 : Int), ((0 : Int), (Unit.unit, (Unit.unit, (Unit.unit, (Unit.unit, ((0 : Int), ((0 : Int), Unit.unit))))))))))))), (t, (ar, (fs, (fa, (([] : List Bool), Unit.unit))))))) (([] : List Bool) ++ (List.map (fun x => (x == (1 : Int))) (List.drop 0 (((List.getD l (Int.toNat ((((List.length l) : Nat) : Int) - (3 : Int) : Int)) (ByteArray.empty, (false, ([] : List Int))))).2).2))))).2).1).2).2).2).2).2).1)), .d (.v (.int .i64 ((((((((((putFl ((Unit.unit, (Unit.unit, (Unit.unit, (Unit.unit, ((((((z13).2).2).2).2).1, (((((((z13).2).2).2).2).2).1, ((((((((z13).2).2).2).2).2).2).1, (Unit.unit, (Unit.unit, (Unit.unit, (Unit.unit, (((((((((((((z13).2).2).2).2).2).2).2).2).2).2).2).1, ((((((((((((((z13).2).2).2).2).2).2).2).2).2).2).2).2).1, Unit.unit))))))))))))), ((pL, (pN, (Unit.unit, (Unit.unit, ((0 : Int), ((0 : Int), ((0 : Int), (Unit.unit, (Unit.unit, (Unit.unit, (Unit.unit, ((0 : Int), ((0 : Int), Unit.unit))))))))))))), (t, (ar, (fs, (fa, (([] : List Bool), Unit.unit))))))) (([] : List Bool) ++ (List.map (fun x => (x == (1 : Int))) (List.drop 0 (((List.getD l (Int.toNat ((((List.length l) : Nat) : Int) - (3 : Int) : Int)) (ByteArray.empty, (false, ([] : List Int))))).2).2))))).2).1).2).2).2).2).2).2).1)), .row 1000004007, .row 1000004008, .row 1000004009, .nil, .d (.v (.int .i64 (((((((((((((((putFl ((Unit.unit, (Unit.unit, (Unit.unit, (Unit.unit, ((((((z13).2).2).2).2).1, (((((((z13).2).2).2).2).2).1, ((((((((z13).2).2).2).2).2).2).1, (Unit.unit, (Unit.unit, (Unit.unit, (Unit.unit, (((((((((((((z13).2).2).2).2).2).2).2).2).2).2).2).1, ((((((((((((((z13).2).2).2).2).2).2).2).2).2).2).2).2).1, Unit.unit))))))))))))), ((pL, (pN, (Unit.unit, (Unit.unit, ((0 : Int), ((0 : Int), ((0 : Int), (Unit.unit, (Unit.unit, (Unit.unit, (Unit.unit, ((0 : Int), ((0 : Int), Unit.unit))))))))))))), (t, (ar, (fs, (fa, (([] : List Bool), Unit.unit))))))) (([] : List Bool) ++ (List.map (fun x => (x == (1 : Int))) (List.drop 0 (((List.getD l (Int.toNat ((((List.length l) : Nat) : Int) - (3 : Int) : Int)) (ByteArray.empty, (false, ([] : List Int))))).2).2))))).2).1).2).2).2).2).2).2).2).2).2).2).2).1)), .d (.v (.int .u16 ((((((((((((((((putFl ((Unit.unit, (Unit.unit, (Unit.unit, (Unit.unit, ((((((z13).2).2).2).2).1, (((((((z13).2).2).2).2).2).1, ((((((((z13).2).2).2).2).2).2).1, (Unit.unit, (Unit.unit, (Unit.unit, (Unit.unit, (((((((((((((z13).2).2).2).2).2).2).2).2).2).2).2).1, ((((((((((((((z13).2).2).2).2).2).2).2).2).2).2).2).2).1, Unit.unit))))))))))))), ((pL, (pN, (Unit.unit, (Unit.unit, ((0 : Int), ((0 : Int), ((0 : Int), (Unit.unit, (Unit.unit, (Unit.unit, (Unit.unit, ((0 : Int), ((0 : Int), Unit.unit))))))))))))), (t, (ar, (fs, (fa, (([] : List Bool), Unit.unit))))))) (([] : List Bool) ++ (List.map (fun x => (x == (1 : Int))) (List.drop 0 (((List.getD l (Int.toNat ((((List.length l) : Nat) : Int) - (3 : Int) : Int)) (ByteArray.empty, (false, ([] : List Int))))).2).2))))).2).1).2).2).2).2).2).2).2).2).2).2).2).2).1))]), (1000004002, .row tEnt 84 ((((putFl ((Unit.unit, (Unit.unit, (Unit.unit, (Unit.unit, ((((((z13).2).2).2).2).1, (((((((z13).2).2).2).2).2).1, ((((((((z13).2).2).2).2).2).2).1, (Unit.unit, (Unit.unit, (Unit.unit, (Unit.unit, (((((((((((((z13).2).2).2).2).2).2).2).2).2).2).2).1, ((((((((((((((z13).2).2).2).2).2).2).2).2).2).2).2).2).1, Unit.unit))))))))))))), ((pL, (pN, (Unit.unit, (Unit.unit, ((0 : Int), ((0 : Int), ((0 : Int), (Unit.unit, (Unit.unit, (Unit.unit, (Unit.unit, ((0 : Int), ((0 : Int), Unit.unit))))))))))))), (t, (ar, (fs, (fa, (([] : List Bool), Unit.unit))))))) (([] : List Bool) ++ (List.map (fun x => (x == (1 : Int))) (List.drop 0 (((List.getD l (Int.toNat ((((List.length l) : Nat) : Int) - (3 : Int) : Int)) (ByteArray.empty, (false, ([] : List Int))))).2).2))))).2).2).1), (1000004003, .row tI 3 (((((putFl ((Unit.unit, (Unit.unit, (Unit.unit, (Unit.unit, ((((((z13).2).2).2).2).1, (((((((z13).2).2).2).2).2).1, ((((((((z13).2).2).2).2).2).2).1, (Unit.unit, (Unit.unit, (Unit.unit, (Unit.unit, (((((((((((((z13).2).2).2).2).2).2).2).2).2).2).2).1, ((((((((((((((z13).2).2).2).2).2).2).2).2).2).2).2).2).1, Unit.unit))))))))))))), ((pL, (pN, (Unit.unit, (Unit.unit, ((0 : Int), ((0 : Int), ((0 : Int), (Unit.unit, (Unit.unit, (Unit.unit, (Unit.unit, ((0 : Int), ((0 : Int), Unit.unit))))))))))))), (t, (ar, (fs, (fa, (([] : List Bool), Unit.unit))))))) (([] : List Bool) ++ (List.map (fun x => (x == (1 : Int))) (List.drop 0 (((List.getD l (Int.toNat ((((List.length l) : Nat) : Int) - (3 : Int) : Int)) (ByteArray.empty, (false, ([] : List Int))))).2).2))))).2).2).2).1), (1000004007, .row tB 43 ((((((putFl ((Unit.unit, (Unit.unit, (Unit.unit, (Unit.unit, ((((((z13).2).2).2).2).1, (((((((z13).2).2).2).2).2).1, ((((((((z13).2).2).2).2).2).2).1, (Unit.unit, (Unit.unit, (Unit.unit, (Unit.unit, (((((((((((((z13).2).2).2).2).2).2).2).2).2).2).2).1, ((((((((((((((z13).2).2).2).2).2).2).2).2).2).2).2).2).1, Unit.unit))))))))))))), ((pL, (pN, (Unit.unit, (Unit.unit, ((0 : Int), ((0 : Int), ((0 : Int), (Unit.unit, (Unit.unit, (Unit.unit, (Unit.unit, ((0 : Int), ((0 : Int), Unit.unit))))))))))))), (t, (ar, (fs, (fa, (([] : List Bool), Unit.unit))))))) (([] : List Bool) ++ (List.map (fun x => (x == (1 : Int))) (List.drop 0 (((List.getD l (Int.toNat ((((List.length l) : Nat) : Int) - (3 : Int) : Int)) (ByteArray.empty, (false, ([] : List Int))))).2).2))))).2).2).2).2).1), (1000004008, .row tB 43 (((((((putFl ((Unit.unit, (Unit.unit, (Unit.unit, (Unit.unit, ((((((z13).2).2).2).2).1, (((((((z13).2).2).2).2).2).1, ((((((((z13).2).2).2).2).2).2).1, (Unit.unit, (Unit.unit, (Unit.unit, (Unit.unit, (((((((((((((z13).2).2).2).2).2).2).2).2).2).2).2).1, ((((((((((((((z13).2).2).2).2).2).2).2).2).2).2).2).2).1, Unit.unit))))))))))))), ((pL, (pN, (Unit.unit, (Unit.unit, ((0 : Int), ((0 : Int), ((0 : Int), (Unit.unit, (Unit.unit, (Unit.unit, (Unit.unit, ((0 : Int), ((0 : Int), Unit.unit))))))))))))), (t, (ar, (fs, (fa, (([] : List Bool), Unit.unit))))))) (([] : List Bool) ++ (List.map (fun x => (x == (1 : Int))) (List.drop 0 (((List.getD l (Int.toNat ((((List.length l) : Nat) : Int) - (3 : Int) : Int)) (ByteArray.empty, (false, ([] : List Int))))).2).2))))).2).2).2).2).2).1), (1000004009, .row Ty.bool 4 ((((((((putFl ((Unit.unit, (Unit.unit, (Unit.unit, (Unit.unit, ((((((z13).2).2).2).2).1, (((((((z13).2).2).2).2).2).1, ((((((((z13).2).2).2).2).2).2).1, (Unit.unit, (Unit.unit, (Unit.unit, (Unit.unit, (((((((((((((z13).2).2).2).2).2).2).2).2).2).2).2).1, ((((((((((((((z13).2).2).2).2).2).2).2).2).2).2).2).2).1, Unit.unit))))))))))))), ((pL, (pN, (Unit.unit, (Unit.unit, ((0 : Int), ((0 : Int), ((0 : Int), (Unit.unit, (Unit.unit, (Unit.unit, (Unit.unit, ((0 : Int), ((0 : Int), Unit.unit))))))))))))), (t, (ar, (fs, (fa, (([] : List Bool), Unit.unit))))))) (([] : List Bool) ++ (List.map (fun x => (x == (1 : Int))) (List.drop 0 (((List.getD l (Int.toNat ((((List.length l) : Nat) : Int) - (3 : Int) : Int)) (ByteArray.empty, (false, ([] : List Int))))).2).2))))).2).2).2).2).2).2).1)]⟩))))) (by kernel_rfl) ?_
  have h3 := madeOk_at hok (l.length - 3)
  rw [e3]
  refine .lnd (by omega) (.lneed (inR_of (by omega) (by omega)) (.lnd ⟨rfl, by show ((l.getD (l.length - 3) dF).2.2.length : Int) ≤ _; omega, by omega, by omega, by simp⟩ ?_))
  refine Gives.goto (σ' := q30x.st ((l, (), (), ()), (z13, (pL, pN, (), (), (0 : Int), (0 : Int), (0 : Int), (), (), (), (), (0 : Int), (0 : Int), ()), t, ar, fs, fa, (l.getD (l.length - 3) dF).2.2.map (fun x : Int => x == 1), ()))) (by rw [List.drop_zero]; rfl) ?_
  generalize (l.getD (l.length - 3) dF).2.2.map (fun x : Int => x == 1) = ff
  refine Gives.seq (by kernel_rfl) ?_
  refine Gives.run (t' := .need (decide (((-(9223372036854775808 : Int) : Int) ≤ ((((List.length l) : Nat) : Int) - (1 : Int) : Int)) ∧ (((((List.length l) : Nat) : Int) - (1 : Int) : Int) ≤ (9223372036854775807 : Int)))) (.need (inR ((((List.length l) : Nat) : Int) - (1 : Int) : Int) (List.length l)) (.need (decide ((List.length (((List.getD l (Int.toNat ((((List.length l) : Nat) : Int) - (1 : Int) : Int)) (ByteArray.empty, (false, ([] : List Int))))).2).2) ≤ 1000000000)) (.ret (.nx, ⟨143, [(0, rL tFile l), (2, .e (.c (.np 2 0))), (4, .e (.c (.np 4 0)))], [(2, .cells 42 [.nil, .nil, .nil, .nil, .d (.v (.int .i64 (((((z13).2).2).2).2).1)), .d (.v (.int .i64 ((((((z13).2).2).2).2).2).1)), .d (.v (.int .i64 (((((((z13).2).2).2).2).2).2).1)), .nil, .nil, .nil, .nil, .d (.v (.int .i64 ((((((((((((z13).2).2).2).2).2).2).2).2).2).2).2).1)), .d (.v (.int .u16 (((((((((((((z13).2).2).2).2).2).2).2).2).2).2).2).2).1))]), (4, .cells 42 [.d (.sl tInst pL), .d (.sl Ty.str pN), .row 1000004002, .row 1000004003, .d (.v (.int .i64 (0 : Int))), .d (.v (.int .i64 (0 : Int))), .d (.v (.int .i64 (0 : Int))), .row 1000004007, .row 1000004008, .row 1000004009, .d (.sl tEv ((untraceF (((List.getD l (Int.toNat ((((List.length l) : Nat) : Int) - (1 : Int) : Int)) (ByteArray.empty, (false, ([] : List Int))))).2).2)).1), .d (.v (.int .i64 (((untraceF (((List.getD l (Int.toNat ((((List.length l) : Nat) : Int) - (1 : Int) : Int)) (ByteArray.empty, (false, ([] : List Int))))).2).2)).2).1)), .d (.v (.int .u16 (((untraceF (((List.getD l (Int.toNat ((((List.length l) : Nat) : Int) - (1 : Int) : Int)) (ByteArray.empty, (false, ([] : List Int))))).2).2)).2).2))]), (1000004002, .row tEnt 84 t), (1000004003, .row tI 3 ar), (1000004007, .row tB 43 fs), (1000004008, .row tB 43 fa), (1000004009, .row Ty.bool 4 ff)]⟩))))) (by kernel_rfl) ?_
  have e1 : ((l.length : Int) - 1).toNat = l.length - 1 := by omega
  have h1' := madeOk_at hok (l.length - 1)
  rw [e1]
  refine .lnd (by omega) (.lneed (inR_of (by omega) (by omega)) (.lnd h1'.2.2 ?_))
  refine Gives.goto (σ' := ⟨143, [(0, rL tFile l), (2, .e (.c (.np 2 0))), (4, .e (.c (.np 4 0)))], [(2, .cells 42 zC), (4, .cells 42 [.d (.sl tInst pL), .d (.sl .str pN), .row (CB4 + 2), .row (CB4 + 3), .d (.v (.int .i64 0)), .d (.v (.int .i64 0)), .d (.v (.int .i64 0)), .row (CB4 + 7), .row (CB4 + 8), .row (CB4 + 9), .d (.sl tEv (untraceF (l.getD (l.length - 1) dF).2.2).1), .d (.v (.int .i64 (untraceF (l.getD (l.length - 1) dF).2.2).2.1)), .d (.v (.int .u16 (untraceF (l.getD (l.length - 1) dF).2.2).2.2))]),
     (CB4 + 2, .row tEnt 84 t), (CB4 + 3, .row tI 3 ar), (CB4 + 7, .row tB 43 fs), (CB4 + 8, .row tB 43 fa), (CB4 + 9, .row .bool 4 ff)]⟩) rfl ?_
  generalize untraceF (l.getD (l.length - 1) dF).2.2 = tr
  obtain ⟨tl, te, tc⟩ := tr
  refine Gives.seq (by kernel_rfl) ?_
  refine Gives.run (t' := .ret (.nx, ⟨143, [(0, rL tFile l), (2, .e (.c (.np 2 0))), (4, .e (.c (.np 4 0))), (13, rI (((List.length l) : Nat) : Int))], [(2, .cells 42 [.nil, .nil, .nil, .nil, .d (.v (.int .i64 (0 : Int))), .d (.v (.int .i64 (0 : Int))), .d (.v (.int .i64 (0 : Int))), .nil, .nil, .nil, .nil, .d (.v (.int .i64 (0 : Int))), .d (.v (.int .u16 (0 : Int)))]), (4, .cells 42 [.d (.sl tInst pL), .d (.sl Ty.str pN), .row 1000004002, .row 1000004003, .d (.v (.int .i64 (0 : Int))), .d (.v (.int .i64 (0 : Int))), .d (.v (.int .i64 (0 : Int))), .row 1000004007, .row 1000004008, .row 1000004009, .d (.sl tEv tl), .d (.v (.int .i64 te)), .d (.v (.int .u16 tc))]), (1000004002, .row tEnt 84 t), (1000004003, .row tI 3 ar), (1000004007, .row tB 43 fs), (1000004008, .row tB 43 fa), (1000004009, .row Ty.bool 4 ff)]⟩)) (by kernel_rfl) ?_
  refine Gives.goto rfl (Gives.seq (by kernel_rfl) ?_)
  refine Gives.run (t' := .need (decide (((-(9223372036854775808 : Int) : Int) ≤ ((((List.length l) : Nat) : Int) - (2 : Int) : Int)) ∧ (((((List.length l) : Nat) : Int) - (2 : Int) : Int) ≤ (9223372036854775807 : Int)))) (.need (inR ((((List.length l) : Nat) : Int) - (2 : Int) : Int) (List.length l)) (.need (decide (((List.length ((((imgO ((pL, (pN, (Unit.unit, (Unit.unit, ((0 : Int), ((0 : Int), ((0 : Int), (Unit.unit, (Unit.unit, (Unit.unit, (tl, (te, (tc, Unit.unit))))))))))))), (t, (ar, (fs, (fa, (ff, Unit.unit)))))))).2).1).1) ≤ 1000000) ∧ ((List.length (((((imgO ((pL, (pN, (Unit.unit, (Unit.unit, ((0 : Int), ((0 : Int), ((0 : Int), (Unit.unit, (Unit.unit, (Unit.unit, (tl, (te, (tc, Unit.unit))))))))))))), (t, (ar, (fs, (fa, (ff, Unit.unit)))))))).2).1).2).1) ≤ 1000000))) (.ret (.nx, ⟨143, [(2, .e (.c (.np 2 0))), (4, .e (.c (.np 4 0))), (14, rB ((unkF (((imgO ((pL, (pN, (Unit.unit, (Unit.unit, ((0 : Int), ((0 : Int), ((0 : Int), (Unit.unit, (Unit.unit, (Unit.unit, (tl, (te, (tc, Unit.unit))))))))))))), (t, (ar, (fs, (fa, (ff, Unit.unit)))))))).2).1 (((List.getD l (Int.toNat ((((List.length l) : Nat) : Int) - (2 : Int) : Int)) (ByteArray.empty, (false, ([] : List Int))))).2).2)).1)], [(2, .cells 42 [.nil, .nil, .nil, .nil, .d (.v (.int .i64 (0 : Int))), .d (.v (.int .i64 (0 : Int))), .d (.v (.int .i64 (0 : Int))), .nil, .nil, .nil, .nil, .d (.v (.int .i64 (0 : Int))), .d (.v (.int .u16 (0 : Int)))]), (4, .cells 42 [.d (.sl tInst (((withCls (imgO ((pL, (pN, (Unit.unit, (Unit.unit, ((0 : Int), ((0 : Int), ((0 : Int), (Unit.unit, (Unit.unit, (Unit.unit, (tl, (te, (tc, Unit.unit))))))))))))), (t, (ar, (fs, (fa, (ff, Unit.unit))))))) ((unkF (((imgO ((pL, (pN, (Unit.unit, (Unit.unit, ((0 : Int), ((0 : Int), ((0 : Int), (Unit.unit, (Unit.unit, (Unit.unit, (tl, (te, (tc, Unit.unit))))))))))))), (t, (ar, (fs, (fa, (ff, Unit.unit)))))))).2).1 (((List.getD l (Int.toNat ((((List.length l) : Nat) : Int) - (2 : Int) : Int)) (ByteArray.empty, (false, ([] : List Int))))).2).2)).2)).1).1), .d (.sl Ty.str (((withCls (imgO ((pL, (pN, (Unit.unit, (Unit.unit, ((0 : Int), ((0 : Int), ((0 : Int), (Unit.unit, (Unit.unit, (Unit.unit, (tl, (te, (tc, Unit.unit))))))))))))), (t, (ar, (fs, (fa, (ff, Unit.unit))))))) ((unkF (((imgO ((pL, (pN, (Unit.unit, (Unit.unit, ((0 : Int), ((0 : Int), ((0 : Int), (Unit.unit, (Unit.unit, (Unit.unit, (tl, (te, (tc, Unit.unit))))))))))))), (t, (ar, (fs, (fa, (ff, Unit.unit)))))))).2).1 (((List.getD l (Int.toNat ((((List.length l) : Nat) : Int) - (2 : Int) : Int)) (ByteArray.empty, (false, ([] : List Int))))).2).2)).2)).1).2), .row 1000004002, .row 1000004003, .d (.v (.int .i64 ((((((withCls (imgO ((pL, (pN, (Unit.unit, (Unit.unit, ((0 : Int), ((0 : Int), ((0 : Int), (Unit.unit, (Unit.unit, (Unit.unit, (tl, (te, (tc, Unit.unit))))))))))))), (t, (ar, (fs, (fa, (ff, Unit.unit))))))) ((unkF (((imgO ((pL, (pN, (Unit.unit, (Unit.unit, ((0 : Int), ((0 : Int), ((0 : Int), (Unit.unit, (Unit.unit, (Unit.unit, (tl, (te, (tc, Unit.unit))))))))))))), (t, (ar, (fs, (fa, (ff, Unit.unit)))))))).2).1 (((List.getD l (Int.toNat ((((List.length l) : Nat) : Int) - (2 : Int) : Int)) (ByteArray.empty, (false, ([] : List Int))))).2).2)).2)).2).1).2).2).1)), .d (.v (.int .i64 (((((((withCls (imgO ((pL, (pN, (Unit.unit, (Unit.unit, ((0 : Int), ((0 : Int), ((0 : Int), (Unit.unit, (Unit.unit, (Unit.unit, (tl, (te, (tc, Unit.unit))))))))))))), (t, (ar, (fs, (fa, (ff, Unit.unit))))))) ((unkF (((imgO ((pL, (pN, (Unit.unit, (Unit.unit, ((0 : Int), ((0 : Int), ((0 : Int), (Unit.unit, (Unit.unit, (Unit.unit, (tl, (te, (tc, Unit.unit))))))))))))), (t, (ar, (fs, (fa, (ff, Unit.unit)))))))).2).1 (((List.getD l (Int.toNat ((((List.length l) : Nat) : Int) - (2 : Int) : Int)) (ByteArray.empty, (false, ([] : List Int))))).2).2)).2)).2).1).2).2).2).1)), .d (.v (.int .i64 (((((((withCls (imgO ((pL, (pN, (Unit.unit, (Unit.unit, ((0 : Int), ((0 : Int), ((0 : Int), (Unit.unit, (Unit.unit, (Unit.unit, (tl, (te, (tc, Unit.unit))))))))))))), (t, (ar, (fs, (fa, (ff, Unit.unit))))))) ((unkF (((imgO ((pL, (pN, (Unit.unit, (Unit.unit, ((0 : Int), ((0 : Int), ((0 : Int), (Unit.unit, (Unit.unit, (Unit.unit, (tl, (te, (tc, Unit.unit))))))))))))), (t, (ar, (fs, (fa, (ff, Unit.unit)))))))).2).1 (((List.getD l (Int.toNat ((((List.length l) : Nat) : Int) - (2 : Int) : Int)) (ByteArray.empty, (false, ([] : List Int))))).2).2)).2)).2).1).2).2).2).2)), .row 1000004007, .row 1000004008, .row 1000004009, .d (.sl tEv (((((withCls (imgO ((pL, (pN, (Unit.unit, (Unit.unit, ((0 : Int), ((0 : Int), ((0 : Int), (Unit.unit, (Unit.unit, (Unit.unit, (tl, (te, (tc, Unit.unit))))))))))))), (t, (ar, (fs, (fa, (ff, Unit.unit))))))) ((unkF (((imgO ((pL, (pN, (Unit.unit, (Unit.unit, ((0 : Int), ((0 : Int), ((0 : Int), (Unit.unit, (Unit.unit, (Unit.unit, (tl, (te, (tc, Unit.unit))))))))))))), (t, (ar, (fs, (fa, (ff, Unit.unit)))))))).2).1 (((List.getD l (Int.toNat ((((List.length l) : Nat) : Int) - (2 : Int) : Int)) (ByteArray.empty, (false, ([] : List Int))))).2).2)).2)).2).2).2).1), .d (.v (.int .i64 ((((((withCls (imgO ((pL, (pN, (Unit.unit, (Unit.unit, ((0 : Int), ((0 : Int), ((0 : Int), (Unit.unit, (Unit.unit, (Unit.unit, (tl, (te, (tc, Unit.unit))))))))))))), (t, (ar, (fs, (fa, (ff, Unit.unit))))))) ((unkF (((imgO ((pL, (pN, (Unit.unit, (Unit.unit, ((0 : Int), ((0 : Int), ((0 : Int), (Unit.unit, (Unit.unit, (Unit.unit, (tl, (te, (tc, Unit.unit))))))))))))), (t, (ar, (fs, (fa, (ff, Unit.unit)))))))).2).1 (((List.getD l (Int.toNat ((((List.length l) : Nat) : Int) - (2 : Int) : Int)) (ByteArray.empty, (false, ([] : List Int))))).2).2)).2)).2).2).2).2).1)), .d (.v (.int .u16 ((((((withCls (imgO ((pL, (pN, (Unit.unit, (Unit.unit, ((0 : Int), ((0 : Int), ((0 : Int), (Unit.unit, (Unit.unit, (Unit.unit, (tl, (te, (tc, Unit.unit))))))))))))), (t, (ar, (fs, (fa, (ff, Unit.unit))))))) ((unkF (((imgO ((pL, (pN, (Unit.unit, (Unit.unit, ((0 : Int), ((0 : Int), ((0 : Int), (Unit.unit, (Unit.unit, (Unit.unit, (tl, (te, (tc, Unit.unit))))))))))))), (t, (ar, (fs, (fa, (ff, Unit.unit)))))))).2).1 (((List.getD l (Int.toNat ((((List.length l) : Nat) : Int) - (2 : Int) : Int)) (ByteArray.empty, (false, ([] : List Int))))).2).2)).2)).2).2).2).2).2))]), (1000004002, .row tEnt 84 ((((withCls (imgO ((pL, (pN, (Unit.unit, (Unit.unit, ((0 : Int), ((0 : Int), ((0 : Int), (Unit.unit, (Unit.unit, (Unit.unit, (tl, (te, (tc, Unit.unit))))))))))))), (t, (ar, (fs, (fa, (ff, Unit.unit))))))) ((unkF (((imgO ((pL, (pN, (Unit.unit, (Unit.unit, ((0 : Int), ((0 : Int), ((0 : Int), (Unit.unit, (Unit.unit, (Unit.unit, (tl, (te, (tc, Unit.unit))))))))))))), (t, (ar, (fs, (fa, (ff, Unit.unit)))))))).2).1 (((List.getD l (Int.toNat ((((List.length l) : Nat) : Int) - (2 : Int) : Int)) (ByteArray.empty, (false, ([] : List Int))))).2).2)).2)).2).1).1), (1000004003, .row tI 3 (((((withCls (imgO ((pL, (pN, (Unit.unit, (Unit.unit, ((0 : Int), ((0 : Int), ((0 : Int), (Unit.unit, (Unit.unit, (Unit.unit, (tl, (te, (tc, Unit.unit))))))))))))), (t, (ar, (fs, (fa, (ff, Unit.unit))))))) ((unkF (((imgO ((pL, (pN, (Unit.unit, (Unit.unit, ((0 : Int), ((0 : Int), ((0 : Int), (Unit.unit, (Unit.unit, (Unit.unit, (tl, (te, (tc, Unit.unit))))))))))))), (t, (ar, (fs, (fa, (ff, Unit.unit)))))))).2).1 (((List.getD l (Int.toNat ((((List.length l) : Nat) : Int) - (2 : Int) : Int)) (ByteArray.empty, (false, ([] : List Int))))).2).2)).2)).2).1).2).1), (1000004007, .row tB 43 (((((withCls (imgO ((pL, (pN, (Unit.unit, (Unit.unit, ((0 : Int), ((0 : Int), ((0 : Int), (Unit.unit, (Unit.unit, (Unit.unit, (tl, (te, (tc, Unit.unit))))))))))))), (t, (ar, (fs, (fa, (ff, Unit.unit))))))) ((unkF (((imgO ((pL, (pN, (Unit.unit, (Unit.unit, ((0 : Int), ((0 : Int), ((0 : Int), (Unit.unit, (Unit.unit, (Unit.unit, (tl, (te, (tc, Unit.unit))))))))))))), (t, (ar, (fs, (fa, (ff, Unit.unit)))))))).2).1 (((List.getD l (Int.toNat ((((List.length l) : Nat) : Int) - (2 : Int) : Int)) (ByteArray.empty, (false, ([] : List Int))))).2).2)).2)).2).2).1).1), (1000004008, .row tB 43 ((((((withCls (imgO ((pL, (pN, (Unit.unit, (Unit.unit, ((0 : Int), ((0 : Int), ((0 : Int), (Unit.unit, (Unit.unit, (Unit.unit, (tl, (te, (tc, Unit.unit))))))))))))), (t, (ar, (fs, (fa, (ff, Unit.unit))))))) ((unkF (((imgO ((pL, (pN, (Unit.unit, (Unit.unit, ((0 : Int), ((0 : Int), ((0 : Int), (Unit.unit, (Unit.unit, (Unit.unit, (tl, (te, (tc, Unit.unit))))))))))))), (t, (ar, (fs, (fa, (ff, Unit.unit)))))))).2).1 (((List.getD l (Int.toNat ((((List.length l) : Nat) : Int) - (2 : Int) : Int)) (ByteArray.empty, (false, ([] : List Int))))).2).2)).2)).2).2).1).2).1), (1000004009, .row Ty.bool 4 ((((((withCls (imgO ((pL, (pN, (Unit.unit, (Unit.unit, ((0 : Int), ((0 : Int), ((0 : Int), (Unit.unit, (Unit.unit, (Unit.unit, (tl, (te, (tc, Unit.unit))))))))))))), (t, (ar, (fs, (fa, (ff, Unit.unit))))))) ((unkF (((imgO ((pL, (pN, (Unit.unit, (Unit.unit, ((0 : Int), ((0 : Int), ((0 : Int), (Unit.unit, (Unit.unit, (Unit.unit, (tl, (te, (tc, Unit.unit))))))))))))), (t, (ar, (fs, (fa, (ff, Unit.unit)))))))).2).1 (((List.getD l (Int.toNat ((((List.length l) : Nat) : Int) - (2 : Int) : Int)) (ByteArray.empty, (false, ([] : List Int))))).2).2)).2)).2).2).1).2).2)]⟩))))) (by kernel_rfl) ?_
  have e2 : ((l.length : Int) - 2).toNat = l.length - 2 := by omega
  have hA1 : t.length ≤ l.length := hA.1
  have hA2 : ar.length ≤ l.length := hA.2
  rw [e2]
  refine .lnd (by omega) (.lneed (inR_of (by omega) (by omega)) (.lnd ⟨by show t.length ≤ _; omega, by show ar.length ≤ _; omega⟩ (Gives.goto rfl ?_)))
  show Gives _ (.ret (SV.tup [eImg ((pL, pN), (unkF (t, ar, 0, 0, 0) (l.getD (l.length - 2) dF).2.2).2, (fs, fa, ff), (tl, te, tc)), eB (unkF (t, ar, 0, 0, 0) (l.getD (l.length - 2) dF).2.2).1], (⟨0, [], []⟩ : St)))
  exact Gives.of_eq (t' := .need true (.need true (.ret (SV.tup [eImg ((pL, pN), (unkF (t, ar, 0, 0, 0) (l.getD (l.length - 2) dF).2.2).2, (fs, fa, ff), (tl, te, tc)), eB (unkF (t, ar, 0, 0, 0) (l.getD (l.length - 2) dF).2.2).1], (⟨0, [], []⟩ : St))))) (by kernel_rfl) (.need rfl (.need rfl (.refl _)))
theorem CVR.nilL {M : Snap} {β : Plc} {t : Ty} {v : Value} (h : CVR M β .nil v) : CVR M β (.d (.sl t [])) v := by
  have h : v = .slice none 0 0 := h
  subst h; exact DR.nil t
theorem zero_img {M : Snap} {β : Plc} {v : Value} (hv : EVR M β zeroA v) : EVR M β (eImg zeroImg) v := by
  obtain ⟨ws, e2, hw⟩ := hv
  refine ⟨ws, e2, ?_⟩
  generalize ws.toList = xs at hw ⊢
  have st : ∀ {x y : CV} {l l' : List CV}, (∀ v, CVR M β x v → CVR M β y v) → (∀ vs, CVs M β l vs → CVs M β l' vs) → ∀ vs, CVs M β (x :: l) vs → CVs M β (y :: l') vs := fun h1 h2 vs h => by
    cases h with
    | cons a b c => exact .cons (h1 _ a) b (h2 _ c)
  exact st (fun v h => CVR.nilL (M := M) (β := β) (t := tInst) h) (st (fun v h => CVR.nilL (M := M) (β := β) (t := .str) h) (st (fun v h => CVR.nilL (M := M) (β := β) (t := tEnt) h) (st (fun v h => CVR.nilL (M := M) (β := β) (t := tI) h) (st (fun _ h => h) (st (fun _ h => h) (st (fun _ h => h)
    (st (fun v h => CVR.nilL (M := M) (β := β) (t := tB) h) (st (fun v h => CVR.nilL (M := M) (β := β) (t := tB) h) (st (fun v h => CVR.nilL (M := M) (β := β) (t := .bool) h) (st (fun v h => CVR.nilL (M := M) (β := β) (t := tEv) h) (fun _ h => h))))))))))) _ hw
theorem made_ok : CtrOk Tryz.prog 33 madeCtr := by
  refine CtrOk.lessC made0_ok ?_
  rintro ⟨(l : List File), ⟨⟩⟩
  show LessT _ (.need (madeOk l) (.ret (SV.tup [eImg (madeF l).2, eB (madeF l).1], (⟨0, [], []⟩ : St))))
  refine .rneed fun h => .need h (.ite (fun hz => ?_) (fun hz => ?_))
  · have hz := of_decide_eq_true hz
    rw [show madeF l = (false, zeroImg) from if_pos hz]
    exact .ret (Less.tup1 fun M β v hv => zero_img hv)
  · have hz := of_decide_eq_false hz
    rw [show madeF l = ((unkOf l).1, made2 l) from if_neg hz]
    exact .ret (.refl _)
end Go.Proofs.YtjebfbkigkjboaaGreatDoor.Sy

/- Contracts: image.Read. -/
set_option maxRecDepth 100000
namespace Go.Proofs.YtjebfbkigkjboaaGreatDoor.Sy
open Go.RowKit Kit Go.Proofs
/-! ### bytes that are bytes -/
theorem w8_u8 (n : Int) : u8 (w8 n) = true := u8_iff.2 (u8_wrap n)
theorem hi8_u8 (n : Int) : u8 (hi8 n) = true := u8_iff.2 (u8_wrap _)
theorem u8s_flat {α : Type} {f : α → List Int} {l : List α} (h : ∀ x ∈ l, u8s (f x) = true) : u8s (l.flatMap f) = true := by
  induction l with
  | nil => rfl
  | cons x r ih => rw [List.flatMap_cons, u8s_app, h x (List.mem_cons_self ..), ih fun y hy => h y (List.mem_cons_of_mem _ hy)]; rfl
theorem u8s_cons {x : Int} {l : List Int} (h : u8 x = true) (hl : u8s l = true) : u8s (x :: l) = true := by
  show (u8 x && u8s l) = true; rw [h, hl]; rfl
theorem pBytes_u8 (p : Prog) : u8s (pBytes p) = true := by
  unfold pBytes
  rw [u8s_app, u8s_app, u8s_app]
  rw [u8s_flat (f := nameB) fun s _ => u8s_cons (w8_u8 _) (u8s_strB s), u8s_flat (f := instB) fun i _ => u8s_cons (w8_u8 _) (u8s_cons (hi8_u8 _) (u8s_cons (w8_u8 _) rfl))]
  rw [u8s_cons (x := 88) rfl (u8s_cons (x := 82) rfl (u8s_cons (w8_u8 p.2.length) rfl)), u8s_cons (w8_u8 p.1.length) rfl]; rfl
theorem twoF_u8 (n : Int) : u8s (twoF n) = true := u8s_cons (hi8_u8 n) (u8s_cons (w8_u8 n) rfl)
theorem truth_u8 (b : Bool) : u8 (truth b) = true := by cases b <;> rfl
theorem kindF_u8 (c : Cls) : u8s (kindF c) = true := by
  unfold kindF
  rw [u8s_app, u8s_app, twoF_u8, u8s_cons (w8_u8 _) (u8s_cons (w8_u8 _) rfl)]
  have : u8s ((capsC c).map w8) = true := List.all_eq_true.2 fun x hx => by obtain ⟨y, _, rfl⟩ := List.mem_map.1 hx; exact w8_u8 y
  rw [this]; rfl
theorem traceF_u8 (t : Trc) : u8s (traceF t) = true := by
  unfold traceF
  rw [u8s_app, u8s_app, twoF_u8, u8s_flat (f := evB) fun e _ => u8s_cons (truth_u8 _) (twoF_u8 _), u8s_cons (w8_u8 _) rfl]; rfl
theorem fileB_u8 {f : File} (h : u8s f.2.2 = true) : u8s (fileB f) = true := by
  unfold fileB padF
  rw [u8s_app, u8s_app, headF_u8, h, u8s_rep]; rfl
theorem arcF_u8 {l : List File} (h : ∀ f ∈ l, u8s f.2.2 = true) : u8s (arcF l) = true := by
  unfold arcF
  rw [u8s_app, u8s_flat fun f hf => fileB_u8 (h f hf), u8s_rep]; rfl
theorem treeFs_u8 : ∀ (t : List Ent) (fs : List (List Int)), (∀ b ∈ fs, u8s b = true) → ∀ f ∈ treeFs t fs, u8s f.2.2 = true
  | [], _, _, f, hf => by cases hf
  | x :: r, fs, h, f, hf => by
    rw [treeFs_cons] at hf
    split at hf
    · rcases List.mem_cons.1 hf with rfl | hf
      · rfl
      · exact treeFs_u8 r fs h f hf
    · rcases List.mem_cons.1 hf with rfl | hf
      · cases fs with
        | nil => rfl
        | cons b bs' => exact h b (List.mem_cons_self ..)
      · refine treeFs_u8 r fs.tail (fun b hb => h b (List.mem_of_mem_tail hb)) f hf
theorem argFs_u8 : ∀ (l : List (List Int)) (k : Int), (∀ b ∈ l, u8s b = true) → ∀ f ∈ argFs k l, u8s f.2.2 = true
  | [], _, _, f, hf => by cases hf
  | x :: r, k, h, f, hf => by
    rcases List.mem_cons.1 hf with rfl | hf
    · exact h x (List.mem_cons_self ..)
    · exact argFs_u8 r (k + 1) (fun b hb => h b (List.mem_cons_of_mem _ hb)) f hf
/-- an image's texts are bytes -/
def imgU (m : Img) : Bool := m.2.2.1.1.all u8s && m.2.2.1.2.1.all u8s
theorem imgFs_u8 {m : Img} (h : imgU m = true) : ∀ f ∈ imgFs m, u8s f.2.2 = true := by
  simp only [imgU, Bool.and_eq_true] at h
  intro f hf
  unfold imgFs filesF at hf
  rcases List.mem_append.1 hf with hf | hf
  · rcases List.mem_cons.1 hf with rfl | hf
    · exact pBytes_u8 _
    · rcases List.mem_append.1 hf with hf | hf
      · exact treeFs_u8 _ _ (fun b hb => List.all_eq_true.1 h.1 b hb) f hf
      · exact argFs_u8 _ _ (fun b hb => List.all_eq_true.1 h.2 b hb) f hf
  · simp only [List.mem_cons, List.not_mem_nil, or_false] at hf
    rcases hf with rfl | rfl | rfl
    · exact List.all_eq_true.2 fun x hx => by obtain ⟨y, _, rfl⟩ := List.mem_map.1 hx; exact truth_u8 y
    · exact kindF_u8 _
    · exact traceF_u8 _
theorem writeB_u8 {m : Img} (h : imgU m = true) : u8s (writeB m) = true := arcF_u8 (imgFs_u8 h)
theorem foldF_u8 : ∀ (L : List File) (a : Acc), (∀ f ∈ L, u8s f.2.2 = true) → (∀ b ∈ a.2.2.1, u8s b = true) ∧ (∀ b ∈ a.2.2.2, u8s b = true) → (∀ b ∈ (L.foldl addF a).2.2.1, u8s b = true) ∧ (∀ b ∈ (L.foldl addF a).2.2.2, u8s b = true)
  | [], a, _, ha => ha
  | f :: r, a, h, ha => by
    rw [List.foldl_cons]
    refine foldF_u8 r _ (fun g hg => h g (List.mem_cons_of_mem _ hg)) ?_
    have hf := h f (List.mem_cons_self ..)
    unfold addF
    split
    · split
      · exact ha
      · exact ⟨fun b hb => by rcases List.mem_append.1 hb with hb | hb; exact ha.1 b hb; rw [List.mem_singleton.1 hb]; exact hf, ha.2⟩
    · exact ⟨ha.1, fun b hb => by rcases List.mem_append.1 hb with hb | hb; exact ha.2 b hb; rw [List.mem_singleton.1 hb]; exact hf⟩
theorem made2_u8 {l : List File} (h : madeOk l = true) : imgU (made2 l) = true := by
  have hm : ∀ f ∈ mids l, u8s f.2.2 = true := fun f hf => by
    simp only [madeOk, Bool.and_eq_true] at h
    have := List.all_eq_true.1 h.2 f (List.mem_of_mem_take (List.mem_of_mem_drop hf))
    simp only [Bool.and_eq_true] at this
    exact this.1.2
  have := foldF_u8 (mids l) ([], [], [], []) hm ⟨fun b hb => (by cases hb), fun b hb => (by cases hb)⟩
  unfold imgU made2 accF
  rw [Bool.and_eq_true]
  exact ⟨List.all_eq_true.2 this.1, List.all_eq_true.2 this.2⟩
theorem madeF_u8 {l : List File} (h : madeOk l = true) : imgU (madeF l).2 = true := by
  unfold madeF
  split
  · rfl
  · exact made2_u8 h
/-- what is read of bytes may be made an image -/
theorem oneE_zero {h r : List Int} (he : oneE h r = 0) : tMay [oneFl h r] = 0 ∧ headF (oneFl h r) = h := by
  unfold oneE at he
  split at he
  · cases he
  split at he
  · cases he
  split at he
  · cases he
  · rename_i hx
    rw [not_or, not_or, Classical.not_not, Classical.not_not] at hx
    exact ⟨hx.1, hx.2.1⟩
theorem oneF'_ok {h r : List Int} (hr : u8s r = true) : (decide ((oneF' h r).1.size ≤ 1000000000) && u8s (oneF' h r).2.2 && decide ((oneF' h r).2.2.length ≤ 1000000000)) = true := by
  unfold oneF'
  split
  · rename_i he
    have h1 := (tMay_zero (oneE_zero he).1).2.2.2.2
    have h2 := of_decide_eq_true (List.all_eq_true.1 h1 _ (List.mem_singleton.2 rfl))
    rw [decide_eq_true (by have := h2.1; omega), decide_eq_true (by have := h2.2; omega)]
    show (true && u8s (r.take _) && true) = true
    rw [u8s_take hr]; rfl
  · rfl
theorem rdL_ok : ∀ (n : Nat) (b : List Int), u8s b = true → ((rdL n b).2.1.all fun f => decide (f.1.size ≤ 1000000000) && u8s f.2.2 && decide (f.2.2.length ≤ 1000000000)) = true ∧ (rdL n b).2.1.length ≤ b.length
  | 0, _, _ => ⟨rfl, Nat.zero_le _⟩
  | n + 1, b, hb => by
    rw [rdL]
    split
    · exact ⟨rfl, Nat.zero_le _⟩
    split
    · exact ⟨rfl, Nat.zero_le _⟩
    split
    · exact ⟨rfl, Nat.zero_le _⟩
    · have ih := rdL_ok n (oneR (b.take 512) (b.drop 512)) (oneR_u8 (u8s_drop hb 512))
      have hl := oneR_len (b.take 512) (b.drop 512)
      rw [List.length_drop] at hl
      refine ⟨?_, by simp only [List.length_cons]; omega⟩
      rw [List.all_cons, oneF'_ok (u8s_drop hb 512), ih.1]; rfl
theorem readT_ok {b : List Int} (hb : u8s b = true) : ((readT b).2.all fun f => decide (f.1.size ≤ 1000000000) && u8s f.2.2 && decide (f.2.2.length ≤ 1000000000)) = true ∧ (readT b).2.length ≤ 1000000 := by
  have h := rdL_ok b.length b hb
  unfold readT
  split
  · exact ⟨rfl, Nat.zero_le _⟩
  split
  · exact ⟨rfl, Nat.zero_le _⟩
  · rename_i hx
    rw [not_or, not_or] at hx
    exact ⟨h.1, by show (rdL b.length b).2.1.length ≤ _; omega⟩
theorem readT_made {b : List Int} (hb : u8s b = true) : madeOk (readT b).2 = true := by
  have h := readT_ok hb
  unfold madeOk
  rw [h.1, decide_eq_true h.2]; rfl

/-! ### image.Read -/
def readI (b : List Int) : Int × Img :=
  if (readT b).1 ≠ 0 then ((readT b).1, zeroImg)
  else if (madeF (readT b).2).1 = false then (4, zeroImg)
  else if writeE (madeF (readT b).2).2 ≠ 0 ∨ ¬ writeB (madeF (readT b).2).2 = b then (4, zeroImg) else (0, (madeF (readT b).2).2)
noncomputable def fn12 := mkFn Tryz.f13
noncomputable def C12 : Cx := ⟨T, FL, [(32, tReadCtr), (33, madeCtr), (5, writeCtr), (34, equalCtr)], [], []⟩
theorem C12_ok : CxOk Tryz.prog C12 := ⟨T_ok, FL_ok, .cons tRead_ok (.cons made_ok (.cons write_ok (.cons equal_ok (.nil _)))), .nil _⟩
def readCtr : Ctr := ctr (one (aVal tB)) fun a => .need (decide (u8s a.1 = true ∧ a.1.length ≤ 1000000000)) (.ret (.tup [eImg (readI a.1).2, eI (readI a.1).1], []))
set_option maxHeartbeats 4000000 in
theorem read0_ok : CtrOk Tryz.prog 13 (ctr (one (aVal tB)) fun a => .need (decide (u8s a.1 = true ∧ a.1.length ≤ 1000000000)) (.ite ((readI a.1).1 != 0) (.ret (.tup [zeroA, eI (readI a.1).1], [])) (.ret (.tup [eImg (readI a.1).2, eI 0], [])))) := by
  refine .mk C12_ok mixed (q := fn12) (.of Tryz.func13 (by kernel_rfl)) (N := 0) (nr := []) .none (by decide) ?_
  rintro ⟨(b : List Int), ⟨⟩⟩ -
  show Gives _ (.need _ (.ite ((readI b).1 != 0) (.ret (SV.tup [zeroA, eI (readI b).1], (⟨0, [], []⟩ : St))) (.ret (SV.tup [eImg (readI b).2, eI 0], (⟨0, [], []⟩ : St)))))
  refine .rnd fun ⟨h1, h2⟩ => ?_
  have h1 : u8s b = true := h1
  have h2 : b.length ≤ 1000000000 := h2
  refine Gives.of_eq (t' := .need (decide (((u8s b) = true) ∧ ((List.length b) ≤ 1000000000))) (.ite (((readT b)).1 != (0 : Int)) (.need true (.ret (.tup [.agg [.nil, .nil, .nil, .nil, .d (.v (.int .i64 (0 : Int))), .d (.v (.int .i64 (0 : Int))), .d (.v (.int .i64 (0 : Int))), .nil, .nil, .nil, .nil, .d (.v (.int .i64 (0 : Int))), .d (.v (.int .u16 (0 : Int)))], .c (.d (.v (.int .i64 ((readT b)).1)))], ⟨0, [], []⟩))) (.need (madeOk ((readT b)).2) (.ite (!((madeF ((readT b)).2)).1) (.need true (.ret (.tup [.agg [.nil, .nil, .nil, .nil, .d (.v (.int .i64 (0 : Int))), .d (.v (.int .i64 (0 : Int))), .d (.v (.int .i64 (0 : Int))), .nil, .nil, .nil, .nil, .d (.v (.int .i64 (0 : Int))), .d (.v (.int .u16 (0 : Int)))], .c (.d (.v (.int .i64 (4 : Int))))], ⟨0, [], []⟩))) (.need true (.ite ((writeE ((madeF ((readT b)).2)).2) != (0 : Int)) (.ite ((writeE ((madeF ((readT b)).2)).2) != (0 : Int)) (.need true (.ret (.tup [.agg [.nil, .nil, .nil, .nil, .d (.v (.int .i64 (0 : Int))), .d (.v (.int .i64 (0 : Int))), .d (.v (.int .i64 (0 : Int))), .nil, .nil, .nil, .nil, .d (.v (.int .i64 (0 : Int))), .d (.v (.int .u16 (0 : Int)))], .c (.d (.v (.int .i64 (4 : Int))))], ⟨0, [], []⟩))) (.need ((u8s ([] : List Int)) && (u8s b)) (.ite (!(([] : List Int) == b)) (.need true (.ret (.tup [.agg [.nil, .nil, .nil, .nil, .d (.v (.int .i64 (0 : Int))), .d (.v (.int .i64 (0 : Int))), .d (.v (.int .i64 (0 : Int))), .nil, .nil, .nil, .nil, .d (.v (.int .i64 (0 : Int))), .d (.v (.int .u16 (0 : Int)))], .c (.d (.v (.int .i64 (4 : Int))))], ⟨0, [], []⟩))) (.need true (.need true (.ret (.tup [.agg [.d (.sl tInst ((((madeF ((readT b)).2)).2).1).1), .d (.sl Ty.str ((((madeF ((readT b)).2)).2).1).2), .d (.sl tEnt (((((madeF ((readT b)).2)).2).2).1).1), .d (.sl tI ((((((madeF ((readT b)).2)).2).2).1).2).1), .d (.v (.int .i64 (((((((madeF ((readT b)).2)).2).2).1).2).2).1)), .d (.v (.int .i64 ((((((((madeF ((readT b)).2)).2).2).1).2).2).2).1)), .d (.v (.int .i64 ((((((((madeF ((readT b)).2)).2).2).1).2).2).2).2)), .d (.sl tB ((((((madeF ((readT b)).2)).2).2).2).1).1), .d (.sl tB (((((((madeF ((readT b)).2)).2).2).2).1).2).1), .d (.sl Ty.bool (((((((madeF ((readT b)).2)).2).2).2).1).2).2), .d (.sl tEv ((((((madeF ((readT b)).2)).2).2).2).2).1), .d (.v (.int .i64 (((((((madeF ((readT b)).2)).2).2).2).2).2).1)), .d (.v (.int .u16 (((((((madeF ((readT b)).2)).2).2).2).2).2).2))], .c (.d (.v (.int .i64 (0 : Int))))], ⟨0, [], []⟩))))))) (.ite false (.need true (.ret (.tup [.agg [.nil, .nil, .nil, .nil, .d (.v (.int .i64 (0 : Int))), .d (.v (.int .i64 (0 : Int))), .d (.v (.int .i64 (0 : Int))), .nil, .nil, .nil, .nil, .d (.v (.int .i64 (0 : Int))), .d (.v (.int .u16 (0 : Int)))], .c (.d (.v (.int .i64 (4 : Int))))], ⟨0, [], []⟩))) (.need ((u8s (writeB ((madeF ((readT b)).2)).2)) && (u8s b)) (.ite (!((writeB ((madeF ((readT b)).2)).2) == b)) (.need true (.ret (.tup [.agg [.nil, .nil, .nil, .nil, .d (.v (.int .i64 (0 : Int))), .d (.v (.int .i64 (0 : Int))), .d (.v (.int .i64 (0 : Int))), .nil, .nil, .nil, .nil, .d (.v (.int .i64 (0 : Int))), .d (.v (.int .u16 (0 : Int)))], .c (.d (.v (.int .i64 (4 : Int))))], ⟨0, [], []⟩))) (.need true (.need true (.ret (.tup [.agg [.d (.sl tInst ((((madeF ((readT b)).2)).2).1).1), .d (.sl Ty.str ((((madeF ((readT b)).2)).2).1).2), .d (.sl tEnt (((((madeF ((readT b)).2)).2).2).1).1), .d (.sl tI ((((((madeF ((readT b)).2)).2).2).1).2).1), .d (.v (.int .i64 (((((((madeF ((readT b)).2)).2).2).1).2).2).1)), .d (.v (.int .i64 ((((((((madeF ((readT b)).2)).2).2).1).2).2).2).1)), .d (.v (.int .i64 ((((((((madeF ((readT b)).2)).2).2).1).2).2).2).2)), .d (.sl tB ((((((madeF ((readT b)).2)).2).2).2).1).1), .d (.sl tB (((((((madeF ((readT b)).2)).2).2).2).1).2).1), .d (.sl Ty.bool (((((((madeF ((readT b)).2)).2).2).2).1).2).2), .d (.sl tEv ((((((madeF ((readT b)).2)).2).2).2).2).1), .d (.v (.int .i64 (((((((madeF ((readT b)).2)).2).2).2).2).2).1)), .d (.v (.int .u16 (((((((madeF ((readT b)).2)).2).2).2).2).2).2))], .c (.d (.v (.int .i64 (0 : Int))))], ⟨0, [], []⟩))))))))))))) (by kernel_rfl) ?_
  refine .nd ⟨h1, h2⟩ ?_
  unfold readI
  refine .ite (fun h => ?_) (fun h => ?_)
  · rw [if_pos (bne_iff_ne.1 h)]; exact .need rfl (.rtt h (.refl _))
  rw [if_neg (by have := bne_eq_false_iff_eq.1 h; exact fun h' => h' this)]
  have hmo := readT_made h1
  have hu := writeB_u8 (madeF_u8 hmo)
  generalize readT b = R at hmo hu ⊢
  obtain ⟨Re, Rl⟩ := R
  have hmo : madeOk Rl = true := hmo
  dsimp only at hu ⊢
  refine .need hmo ?_
  clear hmo
  generalize madeF Rl = m at hu ⊢
  obtain ⟨mk, m⟩ := m
  dsimp only at hu ⊢
  refine .ite (fun h => ?_) (fun h => ?_)
  · rw [if_pos (by rw [← Bool.not_eq_true']; exact h)]; exact .need rfl (.rtt rfl (.refl _))
  rw [if_neg (by rw [show mk = true by rw [← Bool.not_eq_false']; exact h]; simp)]
  refine .need rfl (.ite (fun h => ?_) (fun h => ?_))
  · rw [if_pos (.inl (bne_iff_ne.1 h))]
    exact .tt h (.need rfl (.rtt rfl (.refl _)))
  have hw : writeE m = 0 := bne_eq_false_iff_eq.1 h
  refine .ff rfl (.need (by rw [hu, h1]; rfl) (.ite (fun h' => ?_) (fun h' => ?_)))
  · rw [if_pos (.inr (by simpa using h'))]; exact .need rfl (.rtt rfl (.refl _))
  · rw [if_neg (by rw [not_or, Classical.not_not, Classical.not_not]; exact ⟨hw, by simpa using h'⟩)]
    exact .need rfl (.need rfl (.rff rfl (.refl _)))
theorem read_ok : CtrOk Tryz.prog 13 readCtr := by
  refine CtrOk.lessC read0_ok ?_
  rintro ⟨(b : List Int), ⟨⟩⟩
  show LessT _ (.need _ (.ret (SV.tup [eImg (readI b).2, eI (readI b).1], (⟨0, [], []⟩ : St))))
  refine .rneed fun h => .need h (.ite (fun hz => ?_) (fun hz => ?_))
  · have hz : ¬ (readI b).1 = 0 := bne_iff_ne.1 hz
    have : (readI b).2 = zeroImg := by
      unfold readI at hz ⊢
      split
      · rfl
      split
      · rfl
      split
      · rfl
      · rename_i h1 h2 h3; rw [if_neg h1, if_neg h2, if_neg h3] at hz; exact absurd rfl hz
    rw [this]
    exact .ret (Less.tup1 fun M β v hv => zero_img hv)
  · have hz : (readI b).1 = 0 := bne_eq_false_iff_eq.1 hz
    rw [hz]; exact .ret (.refl _)
end Go.Proofs.YtjebfbkigkjboaaGreatDoor.Sy

/- Contracts: copies of slices and maps. -/
set_option maxRecDepth 1000000
namespace Go.Proofs.YtjebfbkigkjboaaGreatDoor.Sy
open Go.RowKit Kit Go.Proofs
/-- a copy of a map: a new map with the same entries -/
def mcloneCtr : Ctr := fun xs τ =>
  match xs with
  | [.e (.c .nilm)] => .ret (.e (.c .nilm), τ)
  | [.e (.c (.mp i))] =>
    match get τ.objs i with
    | some (.map ka va kt vt l) => .ret (.e (.c (.mp 0)), τ.new 0 (.map ka va kt vt l))
    | _ => .fail
  | _ => .fail
def cloneDCtr (t : Ty) : Ctr := ctr (one (aVal (.sl t))) fun a => .need (decide (a.1.length ≤ 1000000000)) (ans (rL t a.1))
theorem mclone_of {P : Program} {f : Nat} (hE : Entered P f)
    (h : ∀ {b : Nat} {es : Array MapEntry} {c : Nat} (w : World), w.heap[b]? = some (.map es c) → Calls P f #[.map (some b)] w fun e w' => e = .returned (.map (some w.heap.size)) ∧ w' = w.alloc (.map es c))
    (h0 : ∀ w : World, Calls P f #[.map none] w fun e w' => e = .returned (.map none) ∧ w' = w) : CtrOk P f mcloneCtr := by
  refine ⟨hE, fun b M β τ xs vs hrel hxs K hk => ?_⟩
  unfold mcloneCtr at hk
  split at hk
  · cases hxs with
    | cons h1 h2 =>
      cases h2
      rename_i v
      have hv : v = .map none := h1
      subst hv
      exact (h0 b.toWorld).mono fun e w' ⟨he, hw⟩ => ⟨_, τ, .map none, M, β, hk, he, rfl, by rw [hw]; exact hrel⟩
  · rename_i i
    cases hxs with
    | cons h1 h2 =>
      cases h2
      rename_i v
      split at hk
      · rename_i ka va kt vt l ho
        obtain ⟨b', hb, hv⟩ := (show CVR M β (.mp i) v from h1)
        subst hv
        obtain ⟨p, hp, hor⟩ := hrel.objs i _ ho
        rw [hb] at hp; cases hp
        obtain ⟨es, c, hw, hen⟩ := hor
        refine (h b.toWorld hw).mono fun e w' ⟨he, hw'⟩ => ?_
        subst hw'
        obtain ⟨β', hb0, hr⟩ := Rel.allocO (a := ⟨#[], []⟩) hrel 0 (o := .map ka va kt vt l) (obj := .map es c) (fun β' => ⟨es, c, heap_alloc_new _ _, hen⟩)
        exact ⟨_, _, _, M, β', hk, he, ⟨_, hb0, rfl⟩, hr⟩
      · exact hk.elim
  · exact hk.elim
set_option maxHeartbeats 2000000 in
theorem mcloneT_calls {b : Nat} {es : Array MapEntry} {c : Nat} (w : World) (hw : w.heap[b]? = some (.map es c)) :
    Calls Tryz.prog 210 #[.map (some b)] w fun e w' => e = .returned (.map (some w.heap.size)) ∧ w' = w.alloc (.map es c) := by
  have hq := fun w => run_eql_map_nil_sl (P := Tryz.prog) w 318 _ _ (some b) Tryz.underlying318
  go_enter Tryz.func210, Tryz.ntmps210
  go_wp2
  rw [run_callFunc_extern Tryz.func271 (by kernel_rfl) (by kernel_rfl) (by kernel_rfl) (e := Extern.MapsClone.clone) (by kernel_rfl), run_maps_clone_sl w 318 hw]
  simp only [Result.andThen]
  rw [Oper.upon_value]
  go_wp2
  rw [run_typeAssert_map_sl _ 318 _ _ _ _ Tryz.underlying318]
  simp only [Result.andThen]
  rw [Oper.upon_value]
  go_wp2
  go_ret
  exact ⟨rfl, rfl⟩
set_option maxHeartbeats 2000000 in
theorem mcloneT_calls0 (w : World) : Calls Tryz.prog 210 #[.map none] w fun e w' => e = .returned (.map none) ∧ w' = w := by
  have hq := fun w => run_eql_map_nil_sl (P := Tryz.prog) w 318 _ _ none Tryz.underlying318
  go_enter Tryz.func210, Tryz.ntmps210
  go_wp2
  go_ret
  exact ⟨rfl, rfl⟩
theorem mcloneT_ok : CtrOk Tryz.prog 210 mcloneCtr := mclone_of (.of Tryz.func210 (by kernel_rfl)) mcloneT_calls mcloneT_calls0
set_option maxHeartbeats 2000000 in
theorem mcloneK_calls {b : Nat} {es : Array MapEntry} {c : Nat} (w : World) (hw : w.heap[b]? = some (.map es c)) :
    Calls Tryz.prog 270 #[.map (some b)] w fun e w' => e = .returned (.map (some w.heap.size)) ∧ w' = w.alloc (.map es c) := by
  have hq := fun w => run_eql_map_nil_sl (P := Tryz.prog) w 129 _ _ (some b) Tryz.underlying129
  go_enter Tryz.func270, Tryz.ntmps270
  go_wp2
  rw [run_callFunc_extern Tryz.func271 (by kernel_rfl) (by kernel_rfl) (by kernel_rfl) (e := Extern.MapsClone.clone) (by kernel_rfl), run_maps_clone_sl w 129 hw]
  simp only [Result.andThen]
  rw [Oper.upon_value]
  go_wp2
  rw [run_typeAssert_map_sl _ 129 _ _ _ _ Tryz.underlying129]
  simp only [Result.andThen]
  rw [Oper.upon_value]
  go_wp2
  go_ret
  exact ⟨rfl, rfl⟩
set_option maxHeartbeats 2000000 in
theorem mcloneK_calls0 (w : World) : Calls Tryz.prog 270 #[.map none] w fun e w' => e = .returned (.map none) ∧ w' = w := by
  have hq := fun w => run_eql_map_nil_sl (P := Tryz.prog) w 129 _ _ none Tryz.underlying129
  go_enter Tryz.func270, Tryz.ntmps270
  go_wp2
  go_ret
  exact ⟨rfl, rfl⟩
theorem mcloneK_ok : CtrOk Tryz.prog 270 mcloneCtr := mclone_of (.of Tryz.func270 (by kernel_rfl)) mcloneK_calls mcloneK_calls0
/-! ### slices.Clone, answered as data -/
noncomputable def CccloneBo : Cx := ⟨T, [], [], [], [5, FA]⟩
theorem CccloneBo_ok : CxOk Tryz.prog CccloneBo := ⟨T_ok, .nil _, .nil _, .nil _⟩
theorem cloneBo_ok : CtrOk Tryz.prog 171 (cloneDCtr .bool) := by
  refine .words (F := ctr (one (aVal (.sl .bool))) fun a => .need (decide (a.1.length ≤ 1000000000)) (.ite a.1.isEmpty (.both (ans (.e (.c .nil))) (ans (rL .bool a.1))) (ans (rL .bool a.1)))) ?_ fun xs τ K hk => ?_
  · refine .mk CccloneBo_ok mixed (q := mkFn Tryz.f171) (.of Tryz.func171 (by kernel_rfl)) (N := 0) (nr := []) .none (by decide) ?_
    rintro ⟨(l : List Bool), ⟨⟩⟩ hb
    refine Gives.of_eq (t' := .ite (List.isEmpty l) (.both (.ite true (.ret (.e (.c (.nil)), ⟨0, [], []⟩)) (.need true (.need (decide ((((List.length ([] : List Bool)) + (List.length l) : Nat) * (Lay.bytes L4) : Nat) ≤ 140737488355328)) (.ret (rL Ty.bool (([] : List Bool) ++ l), ⟨0, [], []⟩))))) (.ite false (.ret (.e (.c (.nil)), ⟨0, [], []⟩)) (.need true (.need (decide ((((List.length ([] : List Bool)) + (List.length l) : Nat) * (Lay.bytes L4) : Nat) ≤ 140737488355328)) (.ret (rL Ty.bool (([] : List Bool) ++ l), ⟨0, [], []⟩)))))) (.ite false (.ret (.e (.c (.nil)), ⟨0, [], []⟩)) (.need true (.need (decide ((((List.length ([] : List Bool)) + (List.length l) : Nat) * (Lay.bytes L4) : Nat) ≤ 140737488355328)) (.ret (rL Ty.bool (([] : List Bool) ++ l), ⟨0, [], []⟩)))))) (by kernel_rfl) ?_
    refine .rnd fun h1 => ?_
    have h1 : l.length ≤ 1000000000 := h1
    have hb1 : (([] : List Bool).length + l.length) * L4.bytes ≤ 140737488355328 := by show (0 + l.length) * 1 ≤ _; omega
    refine .ites (fun _ => .boths ?_ ?_) (fun _ => ?_)
    · exact .tt rfl (.refl _)
    · exact .ff rfl (.need rfl (.nd hb1 (.refl _)))
    · exact .ff rfl (.need rfl (.nd hb1 (.refl _)))
  · obtain ⟨tn, te, to⟩ := τ
    unfold cloneDCtr ctr at hk
    unfold ctr
    cases te with
    | cons => exact hk.elim
    | nil =>
      cases to with
      | cons => exact hk.elim
      | nil =>
        cases e : (one (aVal (.sl .bool))).de xs with
        | none => simp only [e] at hk; exact hk.elim
        | some a =>
          simp only [e] at hk ⊢
          obtain ⟨(l : List Bool), ⟨⟩⟩ := a
          by_cases hl : l.length ≤ 1000000000
          · have hk' : K (rL .bool l, ⟨0, [], []⟩) := hk.1 (decide_eq_true hl)
            refine ⟨fun _ => ⟨fun hem => ⟨?_, ?_⟩, fun _ => ?_⟩, fun h' => absurd (decide_eq_true hl) (by rw [h']; simp)⟩
            · refine ⟨rL .bool l, hk', fun M β v hv => ?_⟩
              have : l = [] := List.isEmpty_iff.1 hem
              subst this
              have hv : v = .slice none 0 0 := hv
              subst hv
              exact DR.nil .bool
            · exact ⟨_, hk', fun _ _ _ h => h⟩
            · exact ⟨_, hk', fun _ _ _ h => h⟩
          · exact (hk.2 (decide_eq_false hl)).elim
noncomputable def CccloneBy : Cx := ⟨T, [], [], [], [5, FA]⟩
theorem CccloneBy_ok : CxOk Tryz.prog CccloneBy := ⟨T_ok, .nil _, .nil _, .nil _⟩
theorem cloneBy_ok : CtrOk Tryz.prog 169 (cloneDCtr tU) := by
  refine .words (F := ctr (one (aVal (.sl tU))) fun a => .need (decide (a.1.length ≤ 1000000000)) (.ite a.1.isEmpty (.both (ans (.e (.c .nil))) (ans (rL tU a.1))) (ans (rL tU a.1)))) ?_ fun xs τ K hk => ?_
  · refine .mk CccloneBy_ok mixed (q := mkFn Tryz.f169) (.of Tryz.func169 (by kernel_rfl)) (N := 0) (nr := []) .none (by decide) ?_
    rintro ⟨(l : List Int), ⟨⟩⟩ hb
    refine Gives.of_eq (t' := .ite (List.isEmpty l) (.both (.ite true (.ret (.e (.c (.nil)), ⟨0, [], []⟩)) (.need true (.need (decide ((((List.length ([] : List Int)) + (List.length l) : Nat) * (Lay.bytes L5) : Nat) ≤ 140737488355328)) (.ret (rL (Ty.int IntKind.u8) (([] : List Int) ++ l), ⟨0, [], []⟩))))) (.ite false (.ret (.e (.c (.nil)), ⟨0, [], []⟩)) (.need true (.need (decide ((((List.length ([] : List Int)) + (List.length l) : Nat) * (Lay.bytes L5) : Nat) ≤ 140737488355328)) (.ret (rL (Ty.int IntKind.u8) (([] : List Int) ++ l), ⟨0, [], []⟩)))))) (.ite false (.ret (.e (.c (.nil)), ⟨0, [], []⟩)) (.need true (.need (decide ((((List.length ([] : List Int)) + (List.length l) : Nat) * (Lay.bytes L5) : Nat) ≤ 140737488355328)) (.ret (rL (Ty.int IntKind.u8) (([] : List Int) ++ l), ⟨0, [], []⟩)))))) (by kernel_rfl) ?_
    refine .rnd fun h1 => ?_
    have h1 : l.length ≤ 1000000000 := h1
    have hb1 : (([] : List Int).length + l.length) * L5.bytes ≤ 140737488355328 := by show (0 + l.length) * 1 ≤ _; omega
    refine .ites (fun _ => .boths ?_ ?_) (fun _ => ?_)
    · exact .tt rfl (.refl _)
    · exact .ff rfl (.need rfl (.nd hb1 (.refl _)))
    · exact .ff rfl (.need rfl (.nd hb1 (.refl _)))
  · obtain ⟨tn, te, to⟩ := τ
    unfold cloneDCtr ctr at hk
    unfold ctr
    cases te with
    | cons => exact hk.elim
    | nil =>
      cases to with
      | cons => exact hk.elim
      | nil =>
        cases e : (one (aVal (.sl tU))).de xs with
        | none => simp only [e] at hk; exact hk.elim
        | some a =>
          simp only [e] at hk ⊢
          obtain ⟨(l : List Int), ⟨⟩⟩ := a
          by_cases hl : l.length ≤ 1000000000
          · have hk' : K (rL tU l, ⟨0, [], []⟩) := hk.1 (decide_eq_true hl)
            refine ⟨fun _ => ⟨fun hem => ⟨?_, ?_⟩, fun _ => ?_⟩, fun h' => absurd (decide_eq_true hl) (by rw [h']; simp)⟩
            · refine ⟨rL tU l, hk', fun M β v hv => ?_⟩
              have : l = [] := List.isEmpty_iff.1 hem
              subst this
              have hv : v = .slice none 0 0 := hv
              subst hv
              exact DR.nil tU
            · exact ⟨_, hk', fun _ _ _ h => h⟩
            · exact ⟨_, hk', fun _ _ _ h => h⟩
          · exact (hk.2 (decide_eq_false hl)).elim
end Go.Proofs.YtjebfbkigkjboaaGreatDoor.Sy

/- Closed runs: the functions that awake enters, each with its own text carried out. -/
set_option maxRecDepth 1000000
namespace Go.Proofs.YtjebfbkigkjboaaGreatDoor.Sy
open Go.RowKit Kit Go.Proofs
def FL2 : List Nat := [194, 202, 112, 24, 84]
theorem FL2_ok : FlatOk Tryz.prog FL2 := .cons (by kernel_rfl) (by kernel_rfl) (.cons (by kernel_rfl) (by kernel_rfl) (.cons (by kernel_rfl) (by kernel_rfl) (.cons (by kernel_rfl) (by kernel_rfl) (.cons (by kernel_rfl) (by kernel_rfl) (.nil _)))))
theorem ko4 : fnOk Tryz.f4 = true := by kernel_rfl
theorem ko3 : fnOk Tryz.f3 = true := by kernel_rfl
theorem ko45 : fnOk Tryz.f45 = true := by kernel_rfl
theorem ko81 : fnOk Tryz.f81 = true := by kernel_rfl
theorem ko83 : fnOk Tryz.f83 = true := by kernel_rfl
theorem ko84 : fnOk Tryz.f84 = true := by kernel_rfl
theorem ko85 : fnOk Tryz.f85 = true := by kernel_rfl
theorem ko149 : fnOk Tryz.f149 = true := by kernel_rfl
theorem ko150 : fnOk Tryz.f150 = true := by kernel_rfl
theorem ko151 : fnOk Tryz.f151 = true := by kernel_rfl
theorem ko199 : fnOk Tryz.f199 = true := by kernel_rfl
theorem ko205 : fnOk Tryz.f205 = true := by kernel_rfl
theorem ko229 : fnOk Tryz.f229 = true := by kernel_rfl
theorem ko309 : fnOk Tryz.f309 = true := by kernel_rfl
theorem ko6 : fnOk Tryz.f6 = true := by kernel_rfl
theorem ko7 : fnOk Tryz.f7 = true := by kernel_rfl
theorem ko9 : fnOk Tryz.f9 = true := by kernel_rfl
theorem ko10 : fnOk Tryz.f10 = true := by kernel_rfl
theorem ko14 : fnOk Tryz.f14 = true := by kernel_rfl
theorem ko15 : fnOk Tryz.f15 = true := by kernel_rfl
theorem ko16 : fnOk Tryz.f16 = true := by kernel_rfl
theorem ko17 : fnOk Tryz.f17 = true := by kernel_rfl
theorem ko18 : fnOk Tryz.f18 = true := by kernel_rfl
theorem ko20 : fnOk Tryz.f20 = true := by kernel_rfl
theorem ko21 : fnOk Tryz.f21 = true := by kernel_rfl
theorem ko22 : fnOk Tryz.f22 = true := by kernel_rfl
theorem ko23 : fnOk Tryz.f23 = true := by kernel_rfl
theorem ko24 : fnOk Tryz.f24 = true := by kernel_rfl
theorem ko35 : fnOk Tryz.f35 = true := by kernel_rfl
theorem ko36 : fnOk Tryz.f36 = true := by kernel_rfl
theorem ko37 : fnOk Tryz.f37 = true := by kernel_rfl
theorem ko38 : fnOk Tryz.f38 = true := by kernel_rfl
theorem ko39 : fnOk Tryz.f39 = true := by kernel_rfl
theorem ko40 : fnOk Tryz.f40 = true := by kernel_rfl
theorem ko41 : fnOk Tryz.f41 = true := by kernel_rfl
theorem ko42 : fnOk Tryz.f42 = true := by kernel_rfl
theorem ko43 : fnOk Tryz.f43 = true := by kernel_rfl
theorem ko44 : fnOk Tryz.f44 = true := by kernel_rfl
theorem ko46 : fnOk Tryz.f46 = true := by kernel_rfl
theorem ko60 : fnOk Tryz.f60 = true := by kernel_rfl
theorem ko61 : fnOk Tryz.f61 = true := by kernel_rfl
theorem ko62 : fnOk Tryz.f62 = true := by kernel_rfl
theorem ko63 : fnOk Tryz.f63 = true := by kernel_rfl
theorem ko64 : fnOk Tryz.f64 = true := by kernel_rfl
theorem ko65 : fnOk Tryz.f65 = true := by kernel_rfl
theorem ko66 : fnOk Tryz.f66 = true := by kernel_rfl
theorem ko67 : fnOk Tryz.f67 = true := by kernel_rfl
theorem ko68 : fnOk Tryz.f68 = true := by kernel_rfl
theorem ko69 : fnOk Tryz.f69 = true := by kernel_rfl
theorem ko70 : fnOk Tryz.f70 = true := by kernel_rfl
theorem ko71 : fnOk Tryz.f71 = true := by kernel_rfl
theorem ko72 : fnOk Tryz.f72 = true := by kernel_rfl
theorem ko73 : fnOk Tryz.f73 = true := by kernel_rfl
theorem ko74 : fnOk Tryz.f74 = true := by kernel_rfl
theorem ko75 : fnOk Tryz.f75 = true := by kernel_rfl
theorem ko76 : fnOk Tryz.f76 = true := by kernel_rfl
theorem ko77 : fnOk Tryz.f77 = true := by kernel_rfl
theorem ko78 : fnOk Tryz.f78 = true := by kernel_rfl
theorem ko80 : fnOk Tryz.f80 = true := by kernel_rfl
theorem ko82 : fnOk Tryz.f82 = true := by kernel_rfl
theorem ko86 : fnOk Tryz.f86 = true := by kernel_rfl
theorem ko100 : fnOk Tryz.f100 = true := by kernel_rfl
theorem ko101 : fnOk Tryz.f101 = true := by kernel_rfl
theorem ko102 : fnOk Tryz.f102 = true := by kernel_rfl
theorem ko103 : fnOk Tryz.f103 = true := by kernel_rfl
theorem ko104 : fnOk Tryz.f104 = true := by kernel_rfl
theorem ko106 : fnOk Tryz.f106 = true := by kernel_rfl
theorem ko109 : fnOk Tryz.f109 = true := by kernel_rfl
theorem ko112 : fnOk Tryz.f112 = true := by kernel_rfl
theorem ko113 : fnOk Tryz.f113 = true := by kernel_rfl
theorem ko114 : fnOk Tryz.f114 = true := by kernel_rfl
theorem ko117 : fnOk Tryz.f117 = true := by kernel_rfl
theorem ko118 : fnOk Tryz.f118 = true := by kernel_rfl
theorem ko120 : fnOk Tryz.f120 = true := by kernel_rfl
theorem ko121 : fnOk Tryz.f121 = true := by kernel_rfl
theorem ko122 : fnOk Tryz.f122 = true := by kernel_rfl
theorem ko123 : fnOk Tryz.f123 = true := by kernel_rfl
theorem ko124 : fnOk Tryz.f124 = true := by kernel_rfl
theorem ko128 : fnOk Tryz.f128 = true := by kernel_rfl
theorem ko129 : fnOk Tryz.f129 = true := by kernel_rfl
theorem ko130 : fnOk Tryz.f130 = true := by kernel_rfl
theorem ko131 : fnOk Tryz.f131 = true := by kernel_rfl
theorem ko132 : fnOk Tryz.f132 = true := by kernel_rfl
theorem ko133 : fnOk Tryz.f133 = true := by kernel_rfl
theorem ko134 : fnOk Tryz.f134 = true := by kernel_rfl
theorem ko135 : fnOk Tryz.f135 = true := by kernel_rfl
theorem ko136 : fnOk Tryz.f136 = true := by kernel_rfl
theorem ko137 : fnOk Tryz.f137 = true := by kernel_rfl
theorem ko142 : fnOk Tryz.f142 = true := by kernel_rfl
theorem ko170 : fnOk Tryz.f170 = true := by kernel_rfl
theorem ko172 : fnOk Tryz.f172 = true := by kernel_rfl
theorem ko173 : fnOk Tryz.f173 = true := by kernel_rfl
theorem ko192 : fnOk Tryz.f192 = true := by kernel_rfl
theorem ko193 : fnOk Tryz.f193 = true := by kernel_rfl
theorem ko194 : fnOk Tryz.f194 = true := by kernel_rfl
theorem ko195 : fnOk Tryz.f195 = true := by kernel_rfl
theorem ko196 : fnOk Tryz.f196 = true := by kernel_rfl
theorem ko197 : fnOk Tryz.f197 = true := by kernel_rfl
theorem ko198 : fnOk Tryz.f198 = true := by kernel_rfl
theorem ko200 : fnOk Tryz.f200 = true := by kernel_rfl
theorem ko203 : fnOk Tryz.f203 = true := by kernel_rfl
theorem ko204 : fnOk Tryz.f204 = true := by kernel_rfl
theorem ko209 : fnOk Tryz.f209 = true := by kernel_rfl
theorem ko211 : fnOk Tryz.f211 = true := by kernel_rfl
theorem ko213 : fnOk Tryz.f213 = true := by kernel_rfl
theorem ko225 : fnOk Tryz.f225 = true := by kernel_rfl
theorem ko256 : fnOk Tryz.f256 = true := by kernel_rfl
theorem ko257 : fnOk Tryz.f257 = true := by kernel_rfl
theorem ko258 : fnOk Tryz.f258 = true := by kernel_rfl
theorem ko261 : fnOk Tryz.f261 = true := by kernel_rfl
theorem ko272 : fnOk Tryz.f272 = true := by kernel_rfl
theorem ko274 : fnOk Tryz.f274 = true := by kernel_rfl
theorem ko277 : fnOk Tryz.f277 = true := by kernel_rfl
theorem ko278 : fnOk Tryz.f278 = true := by kernel_rfl
theorem ko281 : fnOk Tryz.f281 = true := by kernel_rfl
noncomputable def FR0a (r : List (Nat × Func)) : List (Nat × Func) := (45, Tryz.f45) :: (81, Tryz.f81) :: (83, Tryz.f83) :: (84, Tryz.f84) :: (85, Tryz.f85) :: (149, Tryz.f149) :: (150, Tryz.f150) :: (151, Tryz.f151) :: (199, Tryz.f199) :: (205, Tryz.f205) :: (229, Tryz.f229) :: (309, Tryz.f309) :: r
theorem FR0a_ok {r : List (Nat × Func)} (h : FsOk Tryz.prog r) : FsOk Tryz.prog (FR0a r) := (FsOk.cons Tryz.func45 ko45 (FsOk.cons Tryz.func81 ko81 (FsOk.cons Tryz.func83 ko83 (FsOk.cons Tryz.func84 ko84 (FsOk.cons Tryz.func85 ko85 (FsOk.cons Tryz.func149 ko149 (FsOk.cons Tryz.func150 ko150 (FsOk.cons Tryz.func151 ko151 (FsOk.cons Tryz.func199 ko199 (FsOk.cons Tryz.func205 ko205 (FsOk.cons Tryz.func229 ko229 (FsOk.cons Tryz.func309 ko309 h))))))))))))
noncomputable def FR0 : List (Nat × Func) := (FR0a [])
theorem FR0_ok : FsOk Tryz.prog FR0 := (FR0a_ok (FsOk.nil _))
noncomputable def FW0a (r : List (Nat × Func)) : List (Nat × Func) := (6, Tryz.f6) :: (7, Tryz.f7) :: (9, Tryz.f9) :: (10, Tryz.f10) :: (14, Tryz.f14) :: (15, Tryz.f15) :: (16, Tryz.f16) :: (17, Tryz.f17) :: (18, Tryz.f18) :: (20, Tryz.f20) :: (21, Tryz.f21) :: (22, Tryz.f22) :: (23, Tryz.f23) :: (24, Tryz.f24) :: (35, Tryz.f35) :: (36, Tryz.f36) :: r
theorem FW0a_ok {r : List (Nat × Func)} (h : FsOk Tryz.prog r) : FsOk Tryz.prog (FW0a r) := (FsOk.cons Tryz.func6 ko6 (FsOk.cons Tryz.func7 ko7 (FsOk.cons Tryz.func9 ko9 (FsOk.cons Tryz.func10 ko10 (FsOk.cons Tryz.func14 ko14 (FsOk.cons Tryz.func15 ko15 (FsOk.cons Tryz.func16 ko16 (FsOk.cons Tryz.func17 ko17 (FsOk.cons Tryz.func18 ko18 (FsOk.cons Tryz.func20 ko20 (FsOk.cons Tryz.func21 ko21 (FsOk.cons Tryz.func22 ko22 (FsOk.cons Tryz.func23 ko23 (FsOk.cons Tryz.func24 ko24 (FsOk.cons Tryz.func35 ko35 (FsOk.cons Tryz.func36 ko36 h))))))))))))))))
noncomputable def FW1a (r : List (Nat × Func)) : List (Nat × Func) := (37, Tryz.f37) :: (38, Tryz.f38) :: (39, Tryz.f39) :: (40, Tryz.f40) :: (41, Tryz.f41) :: (42, Tryz.f42) :: (43, Tryz.f43) :: (44, Tryz.f44) :: (46, Tryz.f46) :: (60, Tryz.f60) :: (61, Tryz.f61) :: (62, Tryz.f62) :: (63, Tryz.f63) :: (64, Tryz.f64) :: (65, Tryz.f65) :: (66, Tryz.f66) :: r
theorem FW1a_ok {r : List (Nat × Func)} (h : FsOk Tryz.prog r) : FsOk Tryz.prog (FW1a r) := (FsOk.cons Tryz.func37 ko37 (FsOk.cons Tryz.func38 ko38 (FsOk.cons Tryz.func39 ko39 (FsOk.cons Tryz.func40 ko40 (FsOk.cons Tryz.func41 ko41 (FsOk.cons Tryz.func42 ko42 (FsOk.cons Tryz.func43 ko43 (FsOk.cons Tryz.func44 ko44 (FsOk.cons Tryz.func46 ko46 (FsOk.cons Tryz.func60 ko60 (FsOk.cons Tryz.func61 ko61 (FsOk.cons Tryz.func62 ko62 (FsOk.cons Tryz.func63 ko63 (FsOk.cons Tryz.func64 ko64 (FsOk.cons Tryz.func65 ko65 (FsOk.cons Tryz.func66 ko66 h))))))))))))))))
noncomputable def FW2a (r : List (Nat × Func)) : List (Nat × Func) := (67, Tryz.f67) :: (68, Tryz.f68) :: (69, Tryz.f69) :: (70, Tryz.f70) :: (71, Tryz.f71) :: (72, Tryz.f72) :: (73, Tryz.f73) :: (74, Tryz.f74) :: (75, Tryz.f75) :: (76, Tryz.f76) :: (77, Tryz.f77) :: (78, Tryz.f78) :: (80, Tryz.f80) :: (82, Tryz.f82) :: (86, Tryz.f86) :: (100, Tryz.f100) :: r
theorem FW2a_ok {r : List (Nat × Func)} (h : FsOk Tryz.prog r) : FsOk Tryz.prog (FW2a r) := (FsOk.cons Tryz.func67 ko67 (FsOk.cons Tryz.func68 ko68 (FsOk.cons Tryz.func69 ko69 (FsOk.cons Tryz.func70 ko70 (FsOk.cons Tryz.func71 ko71 (FsOk.cons Tryz.func72 ko72 (FsOk.cons Tryz.func73 ko73 (FsOk.cons Tryz.func74 ko74 (FsOk.cons Tryz.func75 ko75 (FsOk.cons Tryz.func76 ko76 (FsOk.cons Tryz.func77 ko77 (FsOk.cons Tryz.func78 ko78 (FsOk.cons Tryz.func80 ko80 (FsOk.cons Tryz.func82 ko82 (FsOk.cons Tryz.func86 ko86 (FsOk.cons Tryz.func100 ko100 h))))))))))))))))
noncomputable def FW3a (r : List (Nat × Func)) : List (Nat × Func) := (101, Tryz.f101) :: (102, Tryz.f102) :: (103, Tryz.f103) :: (104, Tryz.f104) :: (106, Tryz.f106) :: (109, Tryz.f109) :: (112, Tryz.f112) :: (113, Tryz.f113) :: (114, Tryz.f114) :: (117, Tryz.f117) :: (118, Tryz.f118) :: (120, Tryz.f120) :: (121, Tryz.f121) :: (122, Tryz.f122) :: (123, Tryz.f123) :: (124, Tryz.f124) :: r
theorem FW3a_ok {r : List (Nat × Func)} (h : FsOk Tryz.prog r) : FsOk Tryz.prog (FW3a r) := (FsOk.cons Tryz.func101 ko101 (FsOk.cons Tryz.func102 ko102 (FsOk.cons Tryz.func103 ko103 (FsOk.cons Tryz.func104 ko104 (FsOk.cons Tryz.func106 ko106 (FsOk.cons Tryz.func109 ko109 (FsOk.cons Tryz.func112 ko112 (FsOk.cons Tryz.func113 ko113 (FsOk.cons Tryz.func114 ko114 (FsOk.cons Tryz.func117 ko117 (FsOk.cons Tryz.func118 ko118 (FsOk.cons Tryz.func120 ko120 (FsOk.cons Tryz.func121 ko121 (FsOk.cons Tryz.func122 ko122 (FsOk.cons Tryz.func123 ko123 (FsOk.cons Tryz.func124 ko124 h))))))))))))))))
noncomputable def FW4a (r : List (Nat × Func)) : List (Nat × Func) := (128, Tryz.f128) :: (129, Tryz.f129) :: (130, Tryz.f130) :: (131, Tryz.f131) :: (132, Tryz.f132) :: (133, Tryz.f133) :: (134, Tryz.f134) :: (135, Tryz.f135) :: (136, Tryz.f136) :: (137, Tryz.f137) :: (142, Tryz.f142) :: (170, Tryz.f170) :: (172, Tryz.f172) :: (173, Tryz.f173) :: (192, Tryz.f192) :: (193, Tryz.f193) :: r
theorem FW4a_ok {r : List (Nat × Func)} (h : FsOk Tryz.prog r) : FsOk Tryz.prog (FW4a r) := (FsOk.cons Tryz.func128 ko128 (FsOk.cons Tryz.func129 ko129 (FsOk.cons Tryz.func130 ko130 (FsOk.cons Tryz.func131 ko131 (FsOk.cons Tryz.func132 ko132 (FsOk.cons Tryz.func133 ko133 (FsOk.cons Tryz.func134 ko134 (FsOk.cons Tryz.func135 ko135 (FsOk.cons Tryz.func136 ko136 (FsOk.cons Tryz.func137 ko137 (FsOk.cons Tryz.func142 ko142 (FsOk.cons Tryz.func170 ko170 (FsOk.cons Tryz.func172 ko172 (FsOk.cons Tryz.func173 ko173 (FsOk.cons Tryz.func192 ko192 (FsOk.cons Tryz.func193 ko193 h))))))))))))))))
noncomputable def FW5a (r : List (Nat × Func)) : List (Nat × Func) := (194, Tryz.f194) :: (195, Tryz.f195) :: (196, Tryz.f196) :: (197, Tryz.f197) :: (198, Tryz.f198) :: (200, Tryz.f200) :: (203, Tryz.f203) :: (204, Tryz.f204) :: (209, Tryz.f209) :: (211, Tryz.f211) :: (213, Tryz.f213) :: (225, Tryz.f225) :: (256, Tryz.f256) :: (257, Tryz.f257) :: (258, Tryz.f258) :: (261, Tryz.f261) :: r
theorem FW5a_ok {r : List (Nat × Func)} (h : FsOk Tryz.prog r) : FsOk Tryz.prog (FW5a r) := (FsOk.cons Tryz.func194 ko194 (FsOk.cons Tryz.func195 ko195 (FsOk.cons Tryz.func196 ko196 (FsOk.cons Tryz.func197 ko197 (FsOk.cons Tryz.func198 ko198 (FsOk.cons Tryz.func200 ko200 (FsOk.cons Tryz.func203 ko203 (FsOk.cons Tryz.func204 ko204 (FsOk.cons Tryz.func209 ko209 (FsOk.cons Tryz.func211 ko211 (FsOk.cons Tryz.func213 ko213 (FsOk.cons Tryz.func225 ko225 (FsOk.cons Tryz.func256 ko256 (FsOk.cons Tryz.func257 ko257 (FsOk.cons Tryz.func258 ko258 (FsOk.cons Tryz.func261 ko261 h))))))))))))))))
noncomputable def FW6a (r : List (Nat × Func)) : List (Nat × Func) := (272, Tryz.f272) :: (274, Tryz.f274) :: (277, Tryz.f277) :: (278, Tryz.f278) :: (281, Tryz.f281) :: r
theorem FW6a_ok {r : List (Nat × Func)} (h : FsOk Tryz.prog r) : FsOk Tryz.prog (FW6a r) := (FsOk.cons Tryz.func272 ko272 (FsOk.cons Tryz.func274 ko274 (FsOk.cons Tryz.func277 ko277 (FsOk.cons Tryz.func278 ko278 (FsOk.cons Tryz.func281 ko281 h)))))
noncomputable def FW0 : List (Nat × Func) := (FW0a (FW1a (FW2a (FW3a (FW4a (FW5a (FW6a [])))))))
theorem FW0_ok : FsOk Tryz.prog FW0 := (FW0a_ok (FW1a_ok (FW2a_ok (FW3a_ok (FW4a_ok (FW5a_ok (FW6a_ok (FsOk.nil _))))))))
abbrev cI (n : Int) : CV := .d (.v (.int .i64 n))
abbrev B0 : Nat := 1000000000000
abbrev B1 : Nat := 1000000000001
abbrev B2 : Nat := 1000000000002
abbrev B3 : Nat := 1000000000003
abbrev B4 : Nat := 1000000000004
abbrev B5 : Nat := 1000000000005
abbrev B6 : Nat := 1000000000006
abbrev B7 : Nat := 1000000000007
abbrev B8 : Nat := 1000000000008
abbrev B9 : Nat := 1000000000009
abbrev B10 : Nat := 1000000000010
abbrev B11 : Nat := 1000000000011
abbrev B12 : Nat := 1000000000012
abbrev B13 : Nat := 1000000000013
abbrev B14 : Nat := 1000000000014
abbrev B15 : Nat := 1000000000015
abbrev B16 : Nat := 1000000000016
abbrev B17 : Nat := 1000000000017
abbrev B18 : Nat := 1000000000018
abbrev B19 : Nat := 1000000000019
abbrev B20 : Nat := 1000000000020
abbrev B21 : Nat := 1000000000021
abbrev B22 : Nat := 1000000000022
abbrev B23 : Nat := 1000000000023
abbrev B24 : Nat := 1000000000024
abbrev B25 : Nat := 1000000000025
abbrev B26 : Nat := 1000000000026
abbrev B27 : Nat := 1000000000027
abbrev B28 : Nat := 1000000000028
abbrev B29 : Nat := 1000000000029
abbrev B30 : Nat := 1000000000030
abbrev B31 : Nat := 1000000000031
abbrev B32 : Nat := 1000000000032
abbrev B33 : Nat := 1000000000033
abbrev B34 : Nat := 1000000000034
abbrev B35 : Nat := 1000000000035
abbrev B36 : Nat := 1000000000036
abbrev B37 : Nat := 1000000000037
abbrev B38 : Nat := 1000000000038
abbrev B39 : Nat := 1000000000039
def nrA : List NR := [⟨RNX, .bool, 0⟩]
theorem ptB {f : Nat} {fn : Func} {Γ Λ : List (Nat × Ctr)} {p : Pt} {c : Ctr} (nr : List NR) (mu : List Nat) (hΓ : GOk Tryz.prog Γ) (hΛ : GOk Tryz.prog Λ) (hf : Tryz.prog.funcs[f]? = some fn) (ko : fnOk fn = true) (h : (auto (mkFn fn) ⟨T, FL2, Γ, Λ, mu⟩ 200 nr p.xs p.τ).out = some (p.x, p.σ)) (hc : CtrOk Tryz.prog f c) : CtrOk Tryz.prog f (ptC p c) :=
  .pt (auto_ok ⟨T_ok, FL2_ok, hΓ, hΛ⟩ mixed (.of hf ko)) h hc
theorem ptA {f : Nat} {fn : Func} {Γ Λ : List (Nat × Ctr)} {p : Pt} {c : Ctr} (mu : List Nat) (hΓ : GOk Tryz.prog Γ) (hΛ : GOk Tryz.prog Λ) (hf : Tryz.prog.funcs[f]? = some fn) (ko : fnOk fn = true) (h : (auto (mkFn fn) ⟨T, FL2, Γ, Λ, mu⟩ 200 nrA p.xs p.τ).out = some (p.x, p.σ)) (hc : CtrOk Tryz.prog f c) : CtrOk Tryz.prog f (ptC p c) :=
  ptB nrA mu hΓ hΛ hf ko h hc
end Go.Proofs.YtjebfbkigkjboaaGreatDoor.Sy

/- Closed runs, call by call (written by a program): what each call that awake comes to answers at the state at which it is called. -/
set_option maxRecDepth 1000000
namespace Go.Proofs.YtjebfbkigkjboaaGreatDoor.Sy
open Go.RowKit Kit Go.Proofs

-- ROOT check.Run zc(some 55)
-- ROOT check.Run zc(some 56)
def yw0 : SV := (.tup [(.agg [(cI 0), (cI 1), (cI 65536)]), (.c (.d (.v (.bool true))))])
def yp0 : Pt := ⟨[(.e (.c (cI 1)))], St.nil, yw0, St.nil⟩
noncomputable def yc0 : Ctr := ptC yp0 noC
theorem yc0_ok : CtrOk Tryz.prog 86 yc0 := ptA [999998] (.nil _) (.nil _) Tryz.func86 ko86 (by kernel_rfl) (noC_ok Tryz.func86 ko86)
def yp1 : Pt := ⟨[((.e (.agg [(cI 1), (cI 3)])))], St.nil, (.e (.c (.d (.v (.bool true))))), St.nil⟩
noncomputable def yc1 : Ctr := ptC yp1 noC
theorem yc1_ok : CtrOk Tryz.prog 46 yc1 := ptA [999998, 1] (.nil _) (.cons yc0_ok (.nil _)) Tryz.func46 ko46 (by kernel_rfl) (noC_ok Tryz.func46 ko46)
def yp2 : Pt := ⟨[((.e (.agg [(cI 1), (cI 3)]))), (.e (.c (cI 0)))], St.nil, (.e (.c (.d (.v (.bool true))))), St.nil⟩
noncomputable def yc2 : Ctr := ptC yp2 noC
theorem yc2_ok : CtrOk Tryz.prog 192 yc2 := ptA [999998, 2] (.nil _) (.nil _) Tryz.func192 ko192 (by kernel_rfl) (noC_ok Tryz.func192 ko192)
def yp3 : Pt := ⟨[(.e (.c (cI 1)))], St.nil, (.e (.c (.d (.v (.bool false))))), St.nil⟩
noncomputable def yc3 : Ctr := ptC yp3 noC
theorem yc3_ok : CtrOk Tryz.prog 193 yc3 := ptA [999998] (.nil _) (.nil _) Tryz.func193 ko193 (by kernel_rfl) (noC_ok Tryz.func193 ko193)
def yp4 : Pt := ⟨[(.e (.c (cI 1)))], St.nil, (.e (.c (.d (.v (.bool false))))), St.nil⟩
noncomputable def yc4 : Ctr := ptC yp4 noC
theorem yc4_ok : CtrOk Tryz.prog 194 yc4 := ptA [999998] (.nil _) (.nil _) Tryz.func194 ko194 (by kernel_rfl) (noC_ok Tryz.func194 ko194)
def yw1 : SV := (.e (.agg [(.d (.sl (.pair (.int .i64) (.int .i64)) ([(1, 3), (26, 0)] : List (Int × Int)))), (.d (.sl .str []))]))
def yp5 : Pt := ⟨[yw1, (.e (.c (cI 0)))], St.nil, (.e (.c (cI 0))), St.nil⟩
noncomputable def yc5 : Ctr := ptC yp5 noC
theorem yc5_ok : CtrOk Tryz.prog 112 yc5 := ptA [999998, 2] (.nil _) (.cons yc4_ok (.cons yc3_ok (.cons yc2_ok (.cons yc1_ok (.nil _))))) Tryz.func112 ko112 (by kernel_rfl) (noC_ok Tryz.func112 ko112)
def yw2 : SV := (.tup [(.agg [(cI 1), (cI 0), (cI 1)]), (.c (.d (.v (.bool true))))])
def yp6 : Pt := ⟨[(.e (.c (cI 26)))], St.nil, yw2, St.nil⟩
noncomputable def yc6 : Ctr := ptC yp6 yc0
theorem yc6_ok : CtrOk Tryz.prog 86 yc6 := ptA [999998] (.nil _) (.nil _) Tryz.func86 ko86 (by kernel_rfl) yc0_ok
def yp7 : Pt := ⟨[((.e (.agg [(cI 26), (cI 0)])))], St.nil, (.e (.c (.d (.v (.bool true))))), St.nil⟩
noncomputable def yc7 : Ctr := ptC yp7 yc1
theorem yc7_ok : CtrOk Tryz.prog 46 yc7 := ptA [999998, 1] (.nil _) (.cons yc6_ok (.nil _)) Tryz.func46 ko46 (by kernel_rfl) yc1_ok
def yp8 : Pt := ⟨[((.e (.agg [(cI 26), (cI 0)]))), (.e (.c (cI 0)))], St.nil, (.e (.c (.d (.v (.bool true))))), St.nil⟩
noncomputable def yc8 : Ctr := ptC yp8 yc2
theorem yc8_ok : CtrOk Tryz.prog 192 yc8 := ptA [999998, 2] (.nil _) (.nil _) Tryz.func192 ko192 (by kernel_rfl) yc2_ok
def yp9 : Pt := ⟨[(.e (.c (cI 26)))], St.nil, (.e (.c (.d (.v (.bool false))))), St.nil⟩
noncomputable def yc9 : Ctr := ptC yp9 yc3
theorem yc9_ok : CtrOk Tryz.prog 193 yc9 := ptA [999998] (.nil _) (.nil _) Tryz.func193 ko193 (by kernel_rfl) yc3_ok
def yp10 : Pt := ⟨[(.e (.c (cI 26)))], St.nil, (.e (.c (.d (.v (.bool true))))), St.nil⟩
noncomputable def yc10 : Ctr := ptC yp10 yc4
theorem yc10_ok : CtrOk Tryz.prog 194 yc10 := ptA [999998] (.nil _) (.nil _) Tryz.func194 ko194 (by kernel_rfl) yc4_ok
def yp11 : Pt := ⟨[yw1, (.e (.c (cI 1)))], St.nil, (.e (.c (cI 0))), St.nil⟩
noncomputable def yc11 : Ctr := ptC yp11 yc5
theorem yc11_ok : CtrOk Tryz.prog 112 yc11 := ptA [999998, 2] (.nil _) (.cons yc10_ok (.cons yc9_ok (.cons yc8_ok (.cons yc7_ok (.nil _))))) Tryz.func112 ko112 (by kernel_rfl) yc5_ok
def yp12 : Pt := ⟨[(.e (.c (cI 1)))], St.nil, (.e (.c (cI 0))), St.nil⟩
noncomputable def yc12 : Ctr := ptC yp12 noC
theorem yc12_ok : CtrOk Tryz.prog 106 yc12 := ptA [999998] (.nil _) (.cons yc6_ok (.nil _)) Tryz.func106 ko106 (by kernel_rfl) (noC_ok Tryz.func106 ko106)
def yp13 : Pt := ⟨[(.e (.c (cI 1)))], St.nil, (.e (.c (cI 1))), St.nil⟩
noncomputable def yc13 : Ctr := ptC yp13 noC
theorem yc13_ok : CtrOk Tryz.prog 256 yc13 := ptA [999998] (.nil _) (.cons yc6_ok (.nil _)) Tryz.func256 ko256 (by kernel_rfl) (noC_ok Tryz.func256 ko256)
def yp14 : Pt := ⟨[((.e (.agg [(cI 1), (cI 3)]))), (.e (.c (cI 0)))], St.nil, ((.tup [(.c (cI 1)), (.c (.d (.v (.bool true))))])), St.nil⟩
noncomputable def yc14 : Ctr := ptC yp14 noC
theorem yc14_ok : CtrOk Tryz.prog 195 yc14 := ptA [999998, 2] (.nil _) (.cons yc13_ok (.cons yc12_ok (.nil _))) Tryz.func195 ko195 (by kernel_rfl) (noC_ok Tryz.func195 ko195)
def yp15 : Pt := ⟨[yw1, (.e (.c (cI 0)))], St.nil, (.e (.c (.row 0))), ⟨0, ([]), [(0, (.row (.int .i64) 3 ([1] : List Int)))]⟩⟩
noncomputable def yc15 : Ctr := ptC yp15 noC
theorem yc15_ok : CtrOk Tryz.prog 196 yc15 := ptA [999998, 2] (.nil _) (.cons yc9_ok (.cons yc10_ok (.nil _))) Tryz.func196 ko196 (by kernel_rfl) (noC_ok Tryz.func196 ko196)
def yp16 : Pt := ⟨[((.e (.agg [(cI 1), (cI 3)]))), (.e (.c (cI 1)))], St.nil, ((.tup [(.c (cI 2)), (.c (.d (.v (.bool true))))])), St.nil⟩
noncomputable def yc16 : Ctr := ptC yp16 yc14
theorem yc16_ok : CtrOk Tryz.prog 195 yc16 := ptA [999998, 2] (.nil _) (.cons yc13_ok (.cons yc12_ok (.nil _))) Tryz.func195 ko195 (by kernel_rfl) yc14_ok
def yp17 : Pt := ⟨[((.e (.agg [(cI 1), (cI 3)]))), (.e (.c (cI 2)))], St.nil, ((.tup [(.c (cI 3)), (.c (.d (.v (.bool true))))])), St.nil⟩
noncomputable def yc17 : Ctr := ptC yp17 yc16
theorem yc17_ok : CtrOk Tryz.prog 195 yc17 := ptA [999998, 2] (.nil _) (.cons yc13_ok (.cons yc12_ok (.nil _))) Tryz.func195 ko195 (by kernel_rfl) yc16_ok
def yp18 : Pt := ⟨[((.e (.agg [(cI 1), (cI 3)]))), (.e (.c (cI 3)))], St.nil, ((.tup [(.c (cI 4)), (.c (.d (.v (.bool true))))])), St.nil⟩
noncomputable def yc18 : Ctr := ptC yp18 yc17
theorem yc18_ok : CtrOk Tryz.prog 195 yc18 := ptA [999998, 2] (.nil _) (.cons yc13_ok (.cons yc12_ok (.nil _))) Tryz.func195 ko195 (by kernel_rfl) yc17_ok
def yp19 : Pt := ⟨[((.e (.agg [(cI 1), (cI 3)]))), (.e (.c (cI 4)))], St.nil, ((.tup [(.c (cI 5)), (.c (.d (.v (.bool true))))])), St.nil⟩
noncomputable def yc19 : Ctr := ptC yp19 yc18
theorem yc19_ok : CtrOk Tryz.prog 195 yc19 := ptA [999998, 2] (.nil _) (.cons yc13_ok (.cons yc12_ok (.nil _))) Tryz.func195 ko195 (by kernel_rfl) yc18_ok
def yp20 : Pt := ⟨[((.e (.agg [(cI 1), (cI 3)]))), (.e (.c (cI 5)))], St.nil, ((.tup [(.c (cI 6)), (.c (.d (.v (.bool true))))])), St.nil⟩
noncomputable def yc20 : Ctr := ptC yp20 yc19
theorem yc20_ok : CtrOk Tryz.prog 195 yc20 := ptA [999998, 2] (.nil _) (.cons yc13_ok (.cons yc12_ok (.nil _))) Tryz.func195 ko195 (by kernel_rfl) yc19_ok
def yp21 : Pt := ⟨[((.e (.agg [(cI 1), (cI 3)]))), (.e (.c (cI 6)))], St.nil, ((.tup [(.c (cI 7)), (.c (.d (.v (.bool true))))])), St.nil⟩
noncomputable def yc21 : Ctr := ptC yp21 yc20
theorem yc21_ok : CtrOk Tryz.prog 195 yc21 := ptA [999998, 2] (.nil _) (.cons yc13_ok (.cons yc12_ok (.nil _))) Tryz.func195 ko195 (by kernel_rfl) yc20_ok
def yp22 : Pt := ⟨[((.e (.agg [(cI 1), (cI 3)]))), (.e (.c (cI 7)))], St.nil, ((.tup [(.c (cI 8)), (.c (.d (.v (.bool true))))])), St.nil⟩
noncomputable def yc22 : Ctr := ptC yp22 yc21
theorem yc22_ok : CtrOk Tryz.prog 195 yc22 := ptA [999998, 2] (.nil _) (.cons yc13_ok (.cons yc12_ok (.nil _))) Tryz.func195 ko195 (by kernel_rfl) yc21_ok
def yp23 : Pt := ⟨[((.e (.agg [(cI 1), (cI 3)]))), (.e (.c (cI 8)))], St.nil, ((.tup [(.c (cI 9)), (.c (.d (.v (.bool true))))])), St.nil⟩
noncomputable def yc23 : Ctr := ptC yp23 yc22
theorem yc23_ok : CtrOk Tryz.prog 195 yc23 := ptA [999998, 2] (.nil _) (.cons yc13_ok (.cons yc12_ok (.nil _))) Tryz.func195 ko195 (by kernel_rfl) yc22_ok
def yw3 : SV := (.tup [(.c (cI 10)), (.c (.d (.v (.bool true))))])
def yp24 : Pt := ⟨[((.e (.agg [(cI 1), (cI 3)]))), (.e (.c (cI 9)))], St.nil, yw3, St.nil⟩
noncomputable def yc24 : Ctr := ptC yp24 yc23
theorem yc24_ok : CtrOk Tryz.prog 195 yc24 := ptA [999998, 2] (.nil _) (.cons yc13_ok (.cons yc12_ok (.nil _))) Tryz.func195 ko195 (by kernel_rfl) yc23_ok
def yw4 : SV := (.tup [(.c (cI 11)), (.c (.d (.v (.bool true))))])
def yp25 : Pt := ⟨[((.e (.agg [(cI 1), (cI 3)]))), (.e (.c (cI 10)))], St.nil, yw4, St.nil⟩
noncomputable def yc25 : Ctr := ptC yp25 yc24
theorem yc25_ok : CtrOk Tryz.prog 195 yc25 := ptA [999998, 2] (.nil _) (.cons yc13_ok (.cons yc12_ok (.nil _))) Tryz.func195 ko195 (by kernel_rfl) yc24_ok
def yw5 : SV := (.tup [(.c (cI 12)), (.c (.d (.v (.bool true))))])
def yp26 : Pt := ⟨[((.e (.agg [(cI 1), (cI 3)]))), (.e (.c (cI 11)))], St.nil, yw5, St.nil⟩
noncomputable def yc26 : Ctr := ptC yp26 yc25
theorem yc26_ok : CtrOk Tryz.prog 195 yc26 := ptA [999998, 2] (.nil _) (.cons yc13_ok (.cons yc12_ok (.nil _))) Tryz.func195 ko195 (by kernel_rfl) yc25_ok
def yw6 : SV := (.tup [(.c (cI 13)), (.c (.d (.v (.bool true))))])
def yp27 : Pt := ⟨[((.e (.agg [(cI 1), (cI 3)]))), (.e (.c (cI 12)))], St.nil, yw6, St.nil⟩
noncomputable def yc27 : Ctr := ptC yp27 yc26
theorem yc27_ok : CtrOk Tryz.prog 195 yc27 := ptA [999998, 2] (.nil _) (.cons yc13_ok (.cons yc12_ok (.nil _))) Tryz.func195 ko195 (by kernel_rfl) yc26_ok
def yw7 : SV := (.tup [(.c (cI 14)), (.c (.d (.v (.bool true))))])
def yp28 : Pt := ⟨[((.e (.agg [(cI 1), (cI 3)]))), (.e (.c (cI 13)))], St.nil, yw7, St.nil⟩
noncomputable def yc28 : Ctr := ptC yp28 yc27
theorem yc28_ok : CtrOk Tryz.prog 195 yc28 := ptA [999998, 2] (.nil _) (.cons yc13_ok (.cons yc12_ok (.nil _))) Tryz.func195 ko195 (by kernel_rfl) yc27_ok
def yw8 : SV := (.tup [(.c (cI 15)), (.c (.d (.v (.bool true))))])
def yp29 : Pt := ⟨[((.e (.agg [(cI 1), (cI 3)]))), (.e (.c (cI 14)))], St.nil, yw8, St.nil⟩
noncomputable def yc29 : Ctr := ptC yp29 yc28
theorem yc29_ok : CtrOk Tryz.prog 195 yc29 := ptA [999998, 2] (.nil _) (.cons yc13_ok (.cons yc12_ok (.nil _))) Tryz.func195 ko195 (by kernel_rfl) yc28_ok
def yw9 : SV := (.tup [(.c (cI 16)), (.c (.d (.v (.bool true))))])
def yp30 : Pt := ⟨[((.e (.agg [(cI 1), (cI 3)]))), (.e (.c (cI 15)))], St.nil, yw9, St.nil⟩
noncomputable def yc30 : Ctr := ptC yp30 yc29
theorem yc30_ok : CtrOk Tryz.prog 195 yc30 := ptA [999998, 2] (.nil _) (.cons yc13_ok (.cons yc12_ok (.nil _))) Tryz.func195 ko195 (by kernel_rfl) yc29_ok
def yw10 : SV := (.tup [(.c (cI 17)), (.c (.d (.v (.bool false))))])
def yp31 : Pt := ⟨[((.e (.agg [(cI 1), (cI 3)]))), (.e (.c (cI 16)))], St.nil, yw10, St.nil⟩
noncomputable def yc31 : Ctr := ptC yp31 yc30
theorem yc31_ok : CtrOk Tryz.prog 195 yc31 := ptA [999998, 2] (.nil _) (.cons yc13_ok (.cons yc12_ok (.nil _))) Tryz.func195 ko195 (by kernel_rfl) yc30_ok
def yp32 : Pt := ⟨[(.e (.c (cI 26)))], St.nil, (.e (.c (cI 1))), St.nil⟩
noncomputable def yc32 : Ctr := ptC yp32 yc12
theorem yc32_ok : CtrOk Tryz.prog 106 yc32 := ptA [999998] (.nil _) (.cons yc6_ok (.nil _)) Tryz.func106 ko106 (by kernel_rfl) yc12_ok
def yp33 : Pt := ⟨[(.e (.c (cI 26)))], St.nil, (.e (.c (cI 0))), St.nil⟩
noncomputable def yc33 : Ctr := ptC yp33 yc13
theorem yc33_ok : CtrOk Tryz.prog 256 yc33 := ptA [999998] (.nil _) (.cons yc6_ok (.nil _)) Tryz.func256 ko256 (by kernel_rfl) yc13_ok
def yw11 : SV := (.tup [(.c (cI (-1))), (.c (.d (.v (.bool false))))])
def yp34 : Pt := ⟨[((.e (.agg [(cI 26), (cI 0)]))), (.e (.c (cI 0)))], St.nil, yw11, St.nil⟩
noncomputable def yc34 : Ctr := ptC yp34 yc31
theorem yc34_ok : CtrOk Tryz.prog 195 yc34 := ptA [999998, 2] (.nil _) (.cons yc33_ok (.cons yc32_ok (.nil _))) Tryz.func195 ko195 (by kernel_rfl) yc31_ok
def yp35 : Pt := ⟨[((.e (.agg [(cI 26), (cI 0)]))), (.e (.c (cI 1)))], St.nil, ((.tup [(.c (cI 0)), (.c (.d (.v (.bool true))))])), St.nil⟩
noncomputable def yc35 : Ctr := ptC yp35 yc34
theorem yc35_ok : CtrOk Tryz.prog 195 yc35 := ptA [999998, 2] (.nil _) (.cons yc33_ok (.cons yc32_ok (.nil _))) Tryz.func195 ko195 (by kernel_rfl) yc34_ok
def yp36 : Pt := ⟨[yw1, (.e (.c (cI 1)))], St.nil, (.e (.c .nil)), St.nil⟩
noncomputable def yc36 : Ctr := ptC yp36 yc15
theorem yc36_ok : CtrOk Tryz.prog 196 yc36 := ptA [999998, 2] (.nil _) (.cons yc9_ok (.cons yc10_ok (.nil _))) Tryz.func196 ko196 (by kernel_rfl) yc15_ok
def yp37 : Pt := ⟨[((.e (.agg [(cI 26), (cI 0)]))), (.e (.c (cI 2)))], St.nil, ((.tup [(.c (cI 1)), (.c (.d (.v (.bool true))))])), St.nil⟩
noncomputable def yc37 : Ctr := ptC yp37 yc35
theorem yc37_ok : CtrOk Tryz.prog 195 yc37 := ptA [999998, 2] (.nil _) (.cons yc33_ok (.cons yc32_ok (.nil _))) Tryz.func195 ko195 (by kernel_rfl) yc35_ok
def yp38 : Pt := ⟨[((.e (.agg [(cI 26), (cI 0)]))), (.e (.c (cI 3)))], St.nil, ((.tup [(.c (cI 2)), (.c (.d (.v (.bool true))))])), St.nil⟩
noncomputable def yc38 : Ctr := ptC yp38 yc37
theorem yc38_ok : CtrOk Tryz.prog 195 yc38 := ptA [999998, 2] (.nil _) (.cons yc33_ok (.cons yc32_ok (.nil _))) Tryz.func195 ko195 (by kernel_rfl) yc37_ok
def yp39 : Pt := ⟨[((.e (.agg [(cI 26), (cI 0)]))), (.e (.c (cI 4)))], St.nil, ((.tup [(.c (cI 3)), (.c (.d (.v (.bool true))))])), St.nil⟩
noncomputable def yc39 : Ctr := ptC yp39 yc38
theorem yc39_ok : CtrOk Tryz.prog 195 yc39 := ptA [999998, 2] (.nil _) (.cons yc33_ok (.cons yc32_ok (.nil _))) Tryz.func195 ko195 (by kernel_rfl) yc38_ok
def yp40 : Pt := ⟨[((.e (.agg [(cI 26), (cI 0)]))), (.e (.c (cI 5)))], St.nil, ((.tup [(.c (cI 4)), (.c (.d (.v (.bool true))))])), St.nil⟩
noncomputable def yc40 : Ctr := ptC yp40 yc39
theorem yc40_ok : CtrOk Tryz.prog 195 yc40 := ptA [999998, 2] (.nil _) (.cons yc33_ok (.cons yc32_ok (.nil _))) Tryz.func195 ko195 (by kernel_rfl) yc39_ok
def yp41 : Pt := ⟨[((.e (.agg [(cI 26), (cI 0)]))), (.e (.c (cI 6)))], St.nil, ((.tup [(.c (cI 5)), (.c (.d (.v (.bool true))))])), St.nil⟩
noncomputable def yc41 : Ctr := ptC yp41 yc40
theorem yc41_ok : CtrOk Tryz.prog 195 yc41 := ptA [999998, 2] (.nil _) (.cons yc33_ok (.cons yc32_ok (.nil _))) Tryz.func195 ko195 (by kernel_rfl) yc40_ok
def yp42 : Pt := ⟨[((.e (.agg [(cI 26), (cI 0)]))), (.e (.c (cI 7)))], St.nil, ((.tup [(.c (cI 6)), (.c (.d (.v (.bool true))))])), St.nil⟩
noncomputable def yc42 : Ctr := ptC yp42 yc41
theorem yc42_ok : CtrOk Tryz.prog 195 yc42 := ptA [999998, 2] (.nil _) (.cons yc33_ok (.cons yc32_ok (.nil _))) Tryz.func195 ko195 (by kernel_rfl) yc41_ok
def yp43 : Pt := ⟨[((.e (.agg [(cI 26), (cI 0)]))), (.e (.c (cI 8)))], St.nil, ((.tup [(.c (cI 7)), (.c (.d (.v (.bool true))))])), St.nil⟩
noncomputable def yc43 : Ctr := ptC yp43 yc42
theorem yc43_ok : CtrOk Tryz.prog 195 yc43 := ptA [999998, 2] (.nil _) (.cons yc33_ok (.cons yc32_ok (.nil _))) Tryz.func195 ko195 (by kernel_rfl) yc42_ok
def yp44 : Pt := ⟨[((.e (.agg [(cI 26), (cI 0)]))), (.e (.c (cI 9)))], St.nil, ((.tup [(.c (cI 8)), (.c (.d (.v (.bool true))))])), St.nil⟩
noncomputable def yc44 : Ctr := ptC yp44 yc43
theorem yc44_ok : CtrOk Tryz.prog 195 yc44 := ptA [999998, 2] (.nil _) (.cons yc33_ok (.cons yc32_ok (.nil _))) Tryz.func195 ko195 (by kernel_rfl) yc43_ok
def yp45 : Pt := ⟨[((.e (.agg [(cI 26), (cI 0)]))), (.e (.c (cI 10)))], St.nil, ((.tup [(.c (cI 9)), (.c (.d (.v (.bool true))))])), St.nil⟩
noncomputable def yc45 : Ctr := ptC yp45 yc44
theorem yc45_ok : CtrOk Tryz.prog 195 yc45 := ptA [999998, 2] (.nil _) (.cons yc33_ok (.cons yc32_ok (.nil _))) Tryz.func195 ko195 (by kernel_rfl) yc44_ok
def yp46 : Pt := ⟨[((.e (.agg [(cI 26), (cI 0)]))), (.e (.c (cI 11)))], St.nil, yw3, St.nil⟩
noncomputable def yc46 : Ctr := ptC yp46 yc45
theorem yc46_ok : CtrOk Tryz.prog 195 yc46 := ptA [999998, 2] (.nil _) (.cons yc33_ok (.cons yc32_ok (.nil _))) Tryz.func195 ko195 (by kernel_rfl) yc45_ok
def yp47 : Pt := ⟨[((.e (.agg [(cI 26), (cI 0)]))), (.e (.c (cI 12)))], St.nil, yw4, St.nil⟩
noncomputable def yc47 : Ctr := ptC yp47 yc46
theorem yc47_ok : CtrOk Tryz.prog 195 yc47 := ptA [999998, 2] (.nil _) (.cons yc33_ok (.cons yc32_ok (.nil _))) Tryz.func195 ko195 (by kernel_rfl) yc46_ok
def yp48 : Pt := ⟨[((.e (.agg [(cI 26), (cI 0)]))), (.e (.c (cI 13)))], St.nil, yw5, St.nil⟩
noncomputable def yc48 : Ctr := ptC yp48 yc47
theorem yc48_ok : CtrOk Tryz.prog 195 yc48 := ptA [999998, 2] (.nil _) (.cons yc33_ok (.cons yc32_ok (.nil _))) Tryz.func195 ko195 (by kernel_rfl) yc47_ok
def yp49 : Pt := ⟨[((.e (.agg [(cI 26), (cI 0)]))), (.e (.c (cI 14)))], St.nil, yw6, St.nil⟩
noncomputable def yc49 : Ctr := ptC yp49 yc48
theorem yc49_ok : CtrOk Tryz.prog 195 yc49 := ptA [999998, 2] (.nil _) (.cons yc33_ok (.cons yc32_ok (.nil _))) Tryz.func195 ko195 (by kernel_rfl) yc48_ok
def yp50 : Pt := ⟨[((.e (.agg [(cI 26), (cI 0)]))), (.e (.c (cI 15)))], St.nil, yw7, St.nil⟩
noncomputable def yc50 : Ctr := ptC yp50 yc49
theorem yc50_ok : CtrOk Tryz.prog 195 yc50 := ptA [999998, 2] (.nil _) (.cons yc33_ok (.cons yc32_ok (.nil _))) Tryz.func195 ko195 (by kernel_rfl) yc49_ok
def yp51 : Pt := ⟨[((.e (.agg [(cI 26), (cI 0)]))), (.e (.c (cI 16)))], St.nil, yw8, St.nil⟩
noncomputable def yc51 : Ctr := ptC yp51 yc50
theorem yc51_ok : CtrOk Tryz.prog 195 yc51 := ptA [999998, 2] (.nil _) (.cons yc33_ok (.cons yc32_ok (.nil _))) Tryz.func195 ko195 (by kernel_rfl) yc50_ok
def yo12 : Ob := .row .bool 311 ([true, false, false, false, false, false, false, false, false, false, false, false, false, false, false, false, false, false, true, false, false, false, false, false, false, false, false, false, false, false, false, false, false, false, false, false, false, false, false, false, false, false, false, false, false, false, false, false, false, false, false, false, false, false, false, false, false, false, false, false, false, false, false, false, false, false, false, false, false, false, false, false, false, false, false, false, false, false, false, false, false, false, false, false, false, false, false, false, false, false, false, false, false, false, false, false, false, false, false, false, false, false, false, false, false, false, false, false, false, false, false, false, false, false, false, false, false, false, false, false, false, false, false, false, false, false, false, false, false, false, false, false, false, false, false, false, false, false, false, false, false, false, false, false, false, false, false, false, false, false, false, false, false, false, false, false, false, false, false, false, false, false, false, false, false, false, false, false, false, false, false, false, false, false, false, false, false, false, false, false, false, false, false, false, false, false, false, false, false, false, false, false, false, false, false, false, false, false, false, false, false, false, false, false, false, false, false, false, false, false, false, false, false, false, false, false, false, false, false, false, false, false, false, false, false, false, false, false, false, false, false, false, false, false, false, false, false, false, false, false, false, false, false, false, false, false, false, false, false, false, false, false, false, false, false, false, false, false, false, false, false, false, false, false, false, false, false, false, false, false, false, false, false, false, false, false, false, false, false, false, false, false, false, false, false, false, false, false, false, false, false, false, false, false, false, false, false, false, false, false, false, false, false, false, false, false, false, false, false, false, false, false, false, false, false, false, false, false, false, false, false, false, false, false, false, false, false, false, false, false, false, false, false, false, false, false, false, false, false, false, false, false, false, false, false, false, false, false, false, false, false, false, false, false, false, false, false, false, false, false, false, false, false, false, false, false, false, false, false, false, false, false, false, false, false, false, false, false, false, false, false, false, false, false, false, false, false, false, false, false, false, false, false, false, false, false, false, false, false, false, false, false, false, false, false, false, false, false, false, false, false, false, false, false, false, false, false, false, false, false, false, false, false, false, false, false, false, false, false, false, false, false, false, false, false, false, false, false, false, false, false, false, false, false, false, false, false, false, false, false, false, false, false, false, false, false, false, false, false, false, false, false, false, false, false, false, false, false, false, false, false, false, false, false, false, false, false, false, false, false, false, false, false, false, false, false, false, false, false, false, false, false, false, false, false, false, false, false, false, false, false, false, false, false, false, false, false, false, false, false, false, false, false, false, false, false, false, false, false, false, false, false, false, false, false, false, false, false, false, false, false, false, false, false, false, false, false, false, false, false, false, false, false, false, false, false, false, false, false, false, false, false, false, false, false, false, false, false, false, false, false, false, false, false, false, false, false, false, false, false, false, false, false, false, false, false, false, false, false, false, false, false, false, false, false, false, false, false, false, false, false, false, false, false, false, false, false, false, false, false, false, false, false, false, false, false, false, false, false, false, false, false, false, false, false, false, false, false, false, false, false, false, false, false, false, false, false, false, false, false, false, false, false, false, false, false, false, false, false, false, false, false, false, false, false, false, false, false, false, false, false, false, false, false, false, false, false, false, false, false, false, false, false, false, false, false, false, false, false, false, false, false, false, false, false, false, false, false, false, false, false, false, false, false, false, false, false, false, false, false, false, false, false, false, false, false, false, false, false, false, false, false, false, false, false, false, false, false, false, false, false, false, false, false, false, false, false, false, false, false, false, false, false, false, false, false, false, false, false, false, false, false, false, false, false, false, false, false, false, false, false, false, false, false, false, false, false, false, false, false, false, false, false, false, false, false, false, false, false, false, false, false, false, false, false, false, false, false, false, false, false, false, false, false, false, false, false, false, false, false, false, false, false, false, false, false, false, false, false, false, false, false, false, false, false, false, false, false, false, false, false, false, false, false, false, false, false, false, false, false, false, false, false, false, false, false, false, false, false, false, false, false, false, false, false, false, false, false, false, false, false, false, false, false, false, false, false, false, false, false, false, false, false, false, false, false, false, false, false, false, false, false, false, false, false, false, false, false, false, false, false, false, false, false, false, false, false, false, false, false, false, false, false, false, false, false, false, false, false, false, false, false, false, false, false, false, false, false, false, false, false, false, false, false, false, false, false, false, false, false, false, false, false, false, false, false, false, false, false, false, false, false, false, false, false, false, false, false, false, false, false, false, false, false, false, false, false, false, false, false, false, false, false, false, false, false, false, false, false, false, false, false, false, false, false, false, false, false, false, false, false, false, false, false, false, false, false, false, false, false, false, false, false, false, false, false, false, false, false, false, false, false, false, false, false, false, false, false, false, false, false, false, false, false, false, false, false, false, false, false, false, false, false, false, false, false, false, false, false, false, false, false, false, false, false, false, false, false, false, false, false, false, false, false, false, false, false, false, false, false, false, false, false, false, false, false, false, false, false, false, false, false, false, false, false, false, false, false, false, false, false, false, false, false, false, false, false, false, false, false, false, false, false, false, false, false, false, false, false, false, false, false, false, false, false, false, false, false, false, false, false, false, false, false, false, false, false, false, false, false, false, false, false, false, false, false, false, false, false, false, false, false, false, false, false, false, false, false, false, false, false, false, false, false, false, false, false, false, false, false, false, false, false, false, false, false, false, false, false, false, false, false, false, false, false, false, false, false, false, false, false, false, false, false, false, false, false, false, false, false, false, false, false, false, false, false, false, false, false, false, false, false, false, false, false, false, false, false, false, false, false, false, false, false, false, false, false, false, false, false, false, false, false, false, false, false, false, false, false, false, false, false, false, false, false, false, false, false, false, false, false, false, false, false, false, false, false, false, false, false, false, false, false, false, false, false, false, false, false, false, false, false, false, false, false, false, false, false, false, false, false, false, false, false, false, false, false, false, false, false, false, false, false, false, false, false, false, false, false, false, false, false, false, false, false, false, false, false, false, false, false, false, false, false, false, false, false, false, false, false, false, false, false, false, false, false, false, false, false, false, false, false, false, false, false, false, false, false, false, false, false, false, false, false, false, false, false, false, false, false, false, false, false, false, false, false, false, false, false, false, false, false, false, false, false, false, false, false, false, false, false, false, false, false, false, false, false, false, false, false, false, false, false, false, false, false, false, false, false, false, false, false, false, false, false, false, false, false, false, false, false, false, false, false, false, false, false, false, false, false, false, false, false, false, false, false, false, false, false, false, false, false, false, false, false, false, false, false, false, false, false, false, false, false, false, false, false, false, false, false, false, false, false, false, false, false, false, false, false, false, false, false, false, false, false, false, false, false, false, false, false, false, false, false, false, false, false, false, false, false, false, false, false, false, false, false, false, false, false, false, false, false, false, false, false, false, false, false, false, false, false, false, false, false, false, false, false, false, false, false, false, false, false, false, false, false, false, false, false, false, false, false, false, false, false, false, false, false, false, false, false, false, false, false, false, false, false, false, false, false, false, false, false, false, false, false, false, false, false, false, false, false, false, false, false, false, false, false, false, false, false, false, false, false, false, false, false, false, false, false, false, false, false, false, false, false, false, false, false, false, false, false, false, false, false, false, false, false, false, false, false, false, false, false, false, false, false, false, false, false, false, false, false, false, false, false, false, false, false, false, false, false, false, false, false, false, false, false, false, false, false, false, false, false, false, false, false, false, false, false, false, false, false, false, false, false, false, false, false, false, false, false, false, false, false, false, false, false, false, false, false, false, false, false, false, false, false, false, false, false, false, false, false, false, false, false, false, false, false, false, false, false, false, false, false, false, false, false, false, false, false, false, false, false, false, false, false, false, false, false, false, false, false, false, false, false, false, false, false, false, false, false] : List Bool)
def yp52 : Pt := ⟨[yw1], St.nil, (.e (.c (.rp 0 1 0 0))), ⟨0, ([]), [(0, yo12)]⟩⟩
noncomputable def yc52 : Ctr := ptC yp52 noC
theorem yc52_ok : CtrOk Tryz.prog 113 yc52 := ptB [⟨RNX, .bool, 0⟩, ⟨RNY, .bool, 311⟩] [999998, 1, 14] (.nil _) (.cons yc51_ok (.cons yc36_ok (.nil _))) Tryz.func113 ko113 (by kernel_rfl) (noC_ok Tryz.func113 ko113)
def yp53 : Pt := ⟨[yw1, (.e (.c (.rp B0 1 0 0))), (.e (.c (cI 0)))], ⟨0, ([(100000, (.e (.c (.row B0))))]), [(B0, yo12)]⟩, ((.tup [(.c (cI 0)), (.c (.d (.v (.bool true))))])), ⟨0, ([(100000, (.e (.c (.row B0))))]), [(B0, yo12)]⟩⟩
noncomputable def yc53 : Ctr := ptC yp53 noC
theorem yc53_ok : CtrOk Tryz.prog 114 yc53 := ptA [999998, 3] (.nil _) (.cons yc51_ok (.nil _)) Tryz.func114 ko114 (by kernel_rfl) (noC_ok Tryz.func114 ko114)
def yp54 : Pt := ⟨[yw1, (.e (.c (.rp B0 1 0 0))), (.e (.c (cI 1)))], ⟨0, ([(100000, (.e (.c (.row B0))))]), [(B0, yo12)]⟩, ((.tup [(.c (cI 1)), (.c (.d (.v (.bool true))))])), ⟨0, ([(100000, (.e (.c (.row B0))))]), [(B0, yo12)]⟩⟩
noncomputable def yc54 : Ctr := ptC yp54 yc53
theorem yc54_ok : CtrOk Tryz.prog 114 yc54 := ptA [999998, 3] (.nil _) (.cons yc51_ok (.nil _)) Tryz.func114 ko114 (by kernel_rfl) yc53_ok
def yp55 : Pt := ⟨[yw1], St.nil, ((.tup [(.c (cI 0)), (.c (cI 0))])), St.nil⟩
noncomputable def yc55 : Ctr := ptC yp55 noC
theorem yc55_ok : CtrOk Tryz.prog 63 yc55 := ptA [999998, 1] (.nil _) (.cons yc54_ok (.cons yc52_ok (.cons yc11_ok (.nil _)))) Tryz.func63 ko63 (by kernel_rfl) (noC_ok Tryz.func63 ko63)
def yw13 : SV := (.e (.agg [(.d (.sl (.pair (.int .i64) (.int .i64)) [])), (.d (.sl .str []))]))
def yp56 : Pt := ⟨[yw13], St.nil, ((.tup [(.c (cI 0)), (.c (cI 3))])), St.nil⟩
noncomputable def yc56 : Ctr := ptC yp56 yc55
theorem yc56_ok : CtrOk Tryz.prog 63 yc56 := ptA [999998, 1] (.nil _) (.nil _) Tryz.func63 ko63 (by kernel_rfl) yc55_ok

end Go.Proofs.YtjebfbkigkjboaaGreatDoor.Sy

/- Contracts: check.Run at the two programs that awake, and the law by hand, come to. -/
set_option maxRecDepth 1000000
namespace Go.Proofs.YtjebfbkigkjboaaGreatDoor.Sy
open Go.RowKit Kit Go.Proofs
def pr0 : Prog := ([(1, 3), (26, 0)], [])
def pr1 : Prog := ([], [])
def im0 : Img := (pr0, ([], [], 0, 0, 9), ([], [], []), ([], 1, 3))
def im1 : Img := (pr0, ([], [], 0, 0, 9), ([], [], []), ([], 1, 4))
def im2 : Img := (pr1, ([], [], 0, 0, 9), ([], [], []), ([], 1, 4))
def chkPt (a : Prog × Unit) : Ans := .ite (decide (a.1 = pr0)) (ans (.tup [.c (cI 0), .c (cI 0)])) (.need (decide (a.1 = pr1)) (ans (.tup [.c (cI 0), .c (cI 3)])))
theorem chk_ok : CtrOk Tryz.prog 63 (ctr (one (aAgg tProg)) chkPt) :=
  CtrOk.typed yc56_ok fun a _ => by
    obtain ⟨a, ⟨⟩⟩ := a
    unfold chkPt
    refine .rite (fun h => ?_) (fun h => .rneed fun h' => ?_)
    · have h := of_decide_eq_true h
      subst h
      exact .of_out (by kernel_rfl)
    · have h' := of_decide_eq_true h'
      subst h'
      exact .of_out (by kernel_rfl)
noncomputable def Γ0 : List (Nat × Ctr) := [(5, writeCtr), (13, readCtr), (171, cloneDCtr .bool), (169, cloneDCtr tU), (63, ctr (one (aAgg tProg)) chkPt)]
noncomputable def Λ0 : List (Nat × Ctr) := [(210, mcloneCtr), (270, mcloneCtr)]
theorem Γ0_ok : GOk Tryz.prog Γ0 := .cons write_ok (.cons read_ok (.cons cloneBo_ok (.cons cloneBy_ok (.cons chk_ok (.nil _)))))
theorem Λ0_ok : GOk Tryz.prog Λ0 := .cons mcloneT_ok (.cons mcloneK_ok (.nil _))
end Go.Proofs.YtjebfbkigkjboaaGreatDoor.Sy
