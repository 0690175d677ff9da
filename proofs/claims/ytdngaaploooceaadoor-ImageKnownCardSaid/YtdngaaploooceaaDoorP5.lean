/- Contracts: image.Write. -/
import Derived.Test.YtdngaaploooceaaDoorP4
set_option maxRecDepth 100000
namespace Go.Proofs.YtdngaaploooceaaDoor.Sy
open Go.RowKit Kit Go.Proofs
/-- why an image has no bytes -/
def traceBad (t : Trc) : Bool := decide (1024 < t.1.length) || decide (t.2.1 < 1) || decide (5 < t.2.1)
def imgFs (m : Img) : List File := filesF m (pBytes m.1)
def writeE (m : Img) : Int :=
  if pMay m.1 ≠ 0 then pMay m.1 else if cMay m.2.1 = false then 11 else if cHas m.2.1 m.2.2.1 = false then 12 else if traceBad m.2.2.2 then 4 else tMay (imgFs m)
def writeB (m : Img) : List Int := arcF (imgFs m)
noncomputable def fn8 := mkFn Tryd.f5
noncomputable def C8 : Cx := ⟨T, FL, [(9, pBytesCtr), (10, cMayCtr), (11, cHasCtr), (8, tWriteCtr), (12, imgFilesCtr)], [], []⟩
theorem C8_ok : CxOk Tryd.prog C8 := ⟨T_ok, FL_ok, .cons pBytes_ok (.cons cMay_ok (.cons cHas_ok (.cons tWrite_ok (.cons imgFiles_ok (.nil _))))), .nil _⟩
def writeA (m : Img) : Ans := .ite (writeE m != 0) (.ret (.tup [.c .nil, eI (writeE m)], [])) (.ret (.tup [.c (.row 40049), eI 0], [(40049, .row tU 5 (writeB m))]))
theorem treeF_names : ∀ (t : List Ent) (m : TMap) (nx : Int), (treeF m nx t).isSome = true → ∀ x ∈ t, nameF x.1 = true
  | [], _, _, _, x, hx => by cases hx
  | y :: r, m, nx, h, x, hx => by
    rw [treeF] at h
    split at h
    · cases h
    rename_i h1
    split at h
    · cases h
    rcases List.mem_cons.1 hx with rfl | hx
    · simpa using h1
    · exact treeF_names r _ _ h x hx
theorem cMay_f {c : Cls} (h : cMay c = true) : treeOk c.1 = true ∧ (filesK 0 c.1).length ≤ 4 ∧ c.2.1.length ≤ 2 ∧ c.1.all entOk = true ∧ c.2.1.all capOk = true ∧ (0 ≤ c.2.2.1 ∧ c.2.2.1 ≤ 6) ∧ (0 ≤ c.2.2.2.1 ∧ c.2.2.2.1 ≤ c.2.2.1) ∧ (0 ≤ c.2.2.2.2 ∧ c.2.2.2.2 ≤ 400) := by
  simp only [cMay, Bool.and_eq_true, decide_eq_true_eq] at h
  obtain ⟨⟨⟨⟨⟨⟨⟨h1, h2⟩, h3⟩, h4⟩, h5⟩, h6⟩, h7⟩, h8⟩ := h
  exact ⟨h1, h2, h3, h4, h5, h6, h7, h8⟩
theorem treeOk_f {t : List Ent} (h : treeOk t = true) : t.length ≤ 8 ∧ ∀ x ∈ t, nameF x.1 = true := by
  simp only [treeOk, Bool.and_eq_true, decide_eq_true_eq] at h
  exact ⟨h.1, treeF_names t _ _ h.2⟩
theorem cHas_f {c : Cls} {i : Inp} (h : cHas c i = true) : cMay c = true ∧ i.1.length = (filesK 0 c.1).length ∧ i.2.1.length = c.2.1.length ∧ fMay i.2.2 c.2.2.1 c.2.2.2.1 = true ∧ fitL (capsC c) (i.1 ++ i.2.1) = true := by
  simp only [cHas, Bool.and_eq_true, decide_eq_true_eq] at h
  obtain ⟨⟨⟨⟨h1, h2⟩, h3⟩, h4⟩, h5⟩ := h
  exact ⟨h1, h2, h3, h4, h5⟩
theorem capsF_files (t : List Ent) : (capsF t).length = (filesK 0 t).length := by rw [← capsAt_files [] t]; simp [capsAt]
theorem filesOk_of {m : Img} (h : cHas m.2.1 m.2.2.1 = true) (ht : m.2.2.2.1.length ≤ 1024) : filesOk m = true := by
  obtain ⟨h1, h2, h3, h4, h5⟩ := cHas_f h
  obtain ⟨g1, g2, g3, g4, g5, g6, g7, g8⟩ := cMay_f h1
  obtain ⟨t1, t2⟩ := treeOk_f g1
  have hc := capsF_files m.2.1.1
  have hl : m.2.2.1.2.2.length ≤ 6 := by
    simp only [fMay, Bool.and_eq_true, decide_eq_true_eq] at h4; omega
  simp only [filesOk, Bool.and_eq_true, decide_eq_true_eq]
  exact ⟨⟨by omega, by omega, by omega, by omega, by omega, by omega, by omega⟩, List.all_eq_true.2 fun x hx => decide_eq_true (by have := nameF_size (t2 x hx); omega)⟩
def writeCtr : Ctr := ctr (one (aAgg tImg)) fun a => writeA a.1
theorem write_ok : CtrOk Tryd.prog 5 writeCtr := by
  refine .mk C8_ok mixed (q := fn8) (.of Tryd.func5 (by kernel_rfl)) (N := 0) (nr := []) .none (by decide) ?_
  rintro ⟨(m : Img), ⟨⟩⟩ hb
  refine Gives.of_eq (t' := .need true (.ite ((pMay (m).1) != (0 : Int)) (.ret (.tup [.c (.nil), .c (.d (.v (.int .i64 (pMay (m).1))))], ⟨0, [], []⟩)) (.need true (.ite (!(cMay ((m).2).1)) (.ret (.tup [.c (.nil), .c (.d (.v (.int .i64 (11 : Int))))], ⟨0, [], []⟩)) (.need true (.need true (.need (decide ((List.length (((m).2).1).1) ≤ 1000000)) (.ite (!(cHas ((m).2).1 (((m).2).2).1)) (.ret (.tup [.c (.nil), .c (.d (.v (.int .i64 (12 : Int))))], ⟨0, [], []⟩)) (.ite (decide ((1024 : Int) < (((List.length ((((m).2).2).2).1) : Nat) : Int))) (.ret (.tup [.c (.nil), .c (.d (.v (.int .i64 (4 : Int))))], ⟨0, [], []⟩)) (.ite (decide ((((((m).2).2).2).2).1 < (1 : Int))) (.ret (.tup [.c (.nil), .c (.d (.v (.int .i64 (4 : Int))))], ⟨0, [], []⟩)) (.ite (decide ((5 : Int) < (((((m).2).2).2).2).1)) (.ret (.tup [.c (.nil), .c (.d (.v (.int .i64 (4 : Int))))], ⟨0, [], []⟩)) (.need true (.need (filesOk m) (.ite ((tMay (filesF m (pBytesE (m).1))) != (0 : Int)) (.ret (.tup [.c (.nil), .c (.d (.v (.int .i64 (tMay (filesF m (pBytesE (m).1))))))], ⟨0, [], []⟩)) (.ret (.tup [.c (.row 40049), .c (.d (.v (.int .i64 (0 : Int))))], ⟨0, [], [(40049, .row tU 5 (arcF (filesF m (pBytesE (m).1))))]⟩)))))))))))))))) (by kernel_rfl) ?_
  show Gives _ (.ite (writeE m != 0) (.ret (SV.tup [.c .nil, eI (writeE m)], (⟨0, [], []⟩ : St))) (.ret (SV.tup [.c (.row 40049), eI 0], (⟨0, [], [(40049, .row tU 5 (writeB m))]⟩ : St))))
  unfold writeE
  refine .need rfl (.ite (fun h => ?_) (fun h => ?_))
  · rw [if_pos (by simpa using h)]; exact .rtt h (.refl _)
  have h0 : pMay m.1 = 0 := by simpa using h
  rw [if_neg (by simpa using h)]
  have hp : pBytesE m.1 = pBytes m.1 := by unfold pBytesE; rw [if_pos h0]
  refine .need rfl (.ite (fun h => ?_) (fun h => ?_))
  · rw [if_pos (by rw [← Bool.not_eq_true']; exact h)]; exact .rtt rfl (.refl _)
  have h1 : cMay m.2.1 = true := by rw [← Bool.not_eq_false']; exact h
  rw [if_neg (by rw [h1]; simp)]
  have t1 := (treeOk_f (cMay_f h1).1).1
  refine .need rfl (.need rfl (.nd (by omega) (.ite (fun h => ?_) (fun h => ?_))))
  · rw [if_pos (by rw [← Bool.not_eq_true']; exact h)]; exact .rtt rfl (.refl _)
  have h2 : cHas m.2.1 m.2.2.1 = true := by rw [← Bool.not_eq_false']; exact h
  rw [if_neg (by rw [h2]; simp)]
  unfold traceBad
  refine .if_ (fun h => ?_) (fun h => ?_)
  · rw [if_pos (by rw [decide_eq_true (show 1024 < m.2.2.2.1.length by omega)]; rfl)]; exact .rtt rfl (.refl _)
  rw [decide_eq_false (show ¬ 1024 < m.2.2.2.1.length by omega)]
  refine .if_ (fun h' => ?_) (fun h' => ?_)
  · rw [if_pos (by rw [decide_eq_true h']; rfl)]; exact .rtt rfl (.refl _)
  rw [decide_eq_false h']
  refine .if_ (fun h'' => ?_) (fun h'' => ?_)
  · rw [if_pos (by rw [decide_eq_true h'']; rfl)]; exact .rtt rfl (.refl _)
  rw [decide_eq_false h'', if_neg (by simp), hp]
  exact .need rfl (.need (filesOk_of h2 (by omega)) (.refl _))
end Go.Proofs.YtdngaaploooceaaDoor.Sy

/- Contracts: bytes of a program are read. -/
set_option maxRecDepth 100000
namespace Go.Proofs.YtdngaaploooceaaDoor.Sy
open Go.RowKit Kit Go.Proofs
theorem Rel.unk {w0 : Base} {M0 M : Snap} {β : Plc} {τ : St} {tm : Array Value} {w : World} (h : Rel w0 M0 M β τ tm w) : Rel w0 M0 M β (unkS τ) tm w := { h with
  env := fun s x hs => by
    simp only [unkS, get_mapv] at hs
    obtain ⟨y, hy, rfl⟩ := Option.map_eq_some_iff.1 hs
    obtain ⟨v, hv, hr⟩ := h.env s y hy
    exact ⟨v, hv, hr.unk⟩
  objs := fun i o ho => by
    simp only [unkS, get_mapv] at ho
    obtain ⟨y, hy, rfl⟩ := Option.map_eq_some_iff.1 ho
    obtain ⟨p, hp, hr⟩ := h.objs i y hy
    exact ⟨p, hp, hr.unk⟩ }
/-- truth values in what is left, as any others -/
theorem CtrOk.unkR {P : Program} {f : Nat} {F : Ctr} (h : CtrOk P f F) : CtrOk P f fun xs τ => (F xs τ).bind fun r => .ret (r.1, unkS r.2) := by
  refine ⟨h.1, fun b M β τ xs vs hrel hxs K hk => ?_⟩
  refine (h.2 b M β τ xs vs hrel hxs _ (Tr.sat_bind hk)).mono fun e w' hq => ?_
  obtain ⟨x, τ', v, M', β', hK, he, hx, hr⟩ := hq
  exact ⟨x, unkS τ', v, M', β', hK, he, hx, hr.unk⟩
theorem CtrOk.gives {P : Program} {f : Nat} {F G : Ctr} (h : CtrOk P f F) (hg : ∀ xs τ, Gives (F xs τ) (G xs τ)) : CtrOk P f G :=
  ⟨h.1, fun b M β τ xs vs hrel hxs K hk => h.2 b M β τ xs vs hrel hxs K ((hg xs τ).out K hk)⟩

/-! ### the reader -/
/-- bytes that are left; there were too few -/
abbrev Rdr : Type := List Int × Bool
def qR : Frm := ⟨0, [(GH, .np LB 0)], [(LB, .cells 118 [.dat tB, .dat .bool])]⟩
def qRst (r : Rdr) : St := qR.st (((), ()), ((r.1, r.2, ()), ()))
def takeF (r : Rdr) (n : Int) : List Int × Rdr :=
  if r.2 ∨ (r.1.length : Int) < n then (List.replicate n.toNat 0, (r.1, true)) else (r.1.take n.toNat, (r.1.drop n.toNat, false))
noncomputable def fn72 := mkFn Tryd.f55
def C72 : Cx := ⟨T, FL, [], [], [FA]⟩
theorem C72_ok : CxOk Tryd.prog C72 := ⟨T_ok, FL_ok, .nil _, .nil _⟩
def takeL (a : Unit × Int × Unit) (v : qR.V) : Tr (SV × St) := .need (decide (0 ≤ a.2.1 ∧ a.2.1 ≤ 1000)) (.ret (rL tU (takeF (v.2.1.1, v.2.1.2.1) a.2.1).1, qRst (takeF (v.2.1.1, v.2.1.2.1) a.2.1).2))
def takeCtr : Ctr := ctrL (two (aNp LB 0) aI) qR takeL
theorem take_ok : CtrOk Tryd.prog 55 takeCtr := by
  refine CtrOk.gives (CtrOk.unkR (F := ctrL (two (aNp LB 0) aI) qR fun a v => .need (decide (0 ≤ a.2.1 ∧ a.2.1 ≤ 1000)) (.ite (decide (v.2.1.2.1 = true ∨ (v.2.1.1.length : Int) < a.2.1)) (.ret (rL tU (List.replicate a.2.1.toNat 0), ⟨0, [(GH, .e (.c (.np LB 0)))], [(LB, .cells 118 [.d (.sl tU v.2.1.1), .kb true])]⟩)) (.ret (rL tU (v.2.1.1.take a.2.1.toNat), qRst (v.2.1.1.drop a.2.1.toNat, false))))) ?_) fun xs τ => ?_
  · refine .mkL C72_ok mixed (q := fn72) (.of Tryd.func55 (by kernel_rfl)) (N := 0) (nr := []) .none (by decide) ?_
    rintro ⟨⟨⟩, (n : Int), ⟨⟩⟩ ⟨⟨⟨⟩, ⟨⟩⟩, ⟨(b : List Int), (bad : Bool), ⟨⟩⟩, ⟨⟩⟩
    refine Gives.of_eq (t' := .ite bad (.need (decide (((0 : Int) ≤ n) ∧ ((n = n) ∧ (((((Lay.bytes L5) : Nat) : Int) * n : Int) ≤ (281474976710656 : Int))))) (.ret (rL (Ty.int IntKind.u8) (List.replicate (Int.toNat n) (0 : Int)), ⟨0, [(100000, .e (.c (.np 1000000000000 0)))], [(1000000000000, .cells 118 [.d (.sl tU b), .kb true])]⟩))) (.ite (decide ((((List.length b) : Nat) : Int) < n)) (.need (decide (((0 : Int) ≤ n) ∧ ((n = n) ∧ (((((Lay.bytes L5) : Nat) : Int) * n : Int) ≤ (281474976710656 : Int))))) (.ret (rL (Ty.int IntKind.u8) (List.replicate (Int.toNat n) (0 : Int)), ⟨0, [(100000, .e (.c (.np 1000000000000 0)))], [(1000000000000, .cells 118 [.d (.sl tU b), .kb true])]⟩))) (.need (okB (0 : Int) n (List.length b)) (.need (okB n (((List.length b) : Nat) : Int) (List.length b)) (.ret (rL tU (List.drop 0 (List.take (Int.toNat n) b)), ⟨0, [(100000, .e (.c (.np 1000000000000 0)))], [(1000000000000, .cells 118 [.d (.sl tU (List.drop (Int.toNat n) (List.take (List.length b) b))), .d (.v (.bool bad))])]⟩)))))) (by kernel_rfl) ?_
    refine .rnd fun ⟨h1, h2⟩ => ?_
    have h1 : 0 ≤ n := h1
    have h2 : n ≤ 1000 := h2
    have hm : 0 ≤ n ∧ n = n ∧ ((L5.bytes : Nat) : Int) * n ≤ 281474976710656 := ⟨h1, rfl, by show ((1 : Nat) : Int) * n ≤ _; omega⟩
    cases bad with
    | true => exact .tt rfl (.nd hm (.rtt (decide_eq_true (.inl rfl)) (.refl _)))
    | false =>
      refine .ff rfl (.if_ (fun h => ?_) (fun h => ?_))
      · exact .nd hm (.rtt (decide_eq_true (.inr h)) (.refl _))
      · refine .rff (decide_eq_false (by rintro (h' | h'); cases h'; exact h h')) (.need (by simp [okB]; omega) (.need (by simp [okB]; omega) ?_))
        rw [List.drop_zero, List.take_length]
        exact .refl _
  · unfold takeCtr ctrL
    cases (two (aNp LB 0) aI).de xs with
    | none => exact .fail
    | some a =>
      cases qR.de (unkS τ) with
      | none => exact .fail
      | some v =>
        obtain ⟨⟨⟩, (n : Int), ⟨⟩⟩ := a
        obtain ⟨⟨⟨⟩, ⟨⟩⟩, ⟨(b : List Int), (bad : Bool), ⟨⟩⟩, ⟨⟩⟩ := v
        refine .rneed fun h => .need h ?_
        by_cases hc : bad = true ∨ (b.length : Int) < n
        · show Gives _ (.ret (rL tU (takeF (b, bad) n).1, qRst (takeF (b, bad) n).2))
          rw [show takeF (b, bad) n = (List.replicate n.toNat 0, (b, true)) from if_pos hc]
          exact .tt (decide_eq_true hc) (.refl _)
        · show Gives _ (.ret (rL tU (takeF (b, bad) n).1, qRst (takeF (b, bad) n).2))
          rw [show takeF (b, bad) n = (b.take n.toNat, (b.drop n.toNat, false)) from if_neg hc]
          exact .ff (decide_eq_false hc) (.refl _)
theorem takeF_len (r : Rdr) {n : Int} (h : 0 ≤ n) : (takeF r n).1.length = n.toNat := by
  unfold takeF
  split
  · exact List.length_replicate
  · rename_i hc; rw [not_or] at hc; simp only [List.length_take]; omega
/-- a byte is taken -/
def oneF (r : Rdr) : Int × Rdr := (IntKind.wrap .i64 ((takeF r 1).1.getD 0 0), (takeF r 1).2)
noncomputable def fn71 := mkFn Tryd.f54
def C71 : Cx := ⟨T, FL, [], [(55, takeCtr)], []⟩
theorem C71_ok : CxOk Tryd.prog C71 := ⟨T_ok, FL_ok, .nil _, .cons take_ok (.nil _)⟩
def oneL (_ : Unit × Unit) (v : qR.V) : Tr (SV × St) := .ret (rI (oneF (v.2.1.1, v.2.1.2.1)).1, qRst (oneF (v.2.1.1, v.2.1.2.1)).2)
def oneCtr : Ctr := ctrL (one (aNp LB 0)) qR oneL
theorem one_ok : CtrOk Tryd.prog 54 oneCtr := by
  refine .mkL C71_ok mixed (q := fn71) (.of Tryd.func54 (by kernel_rfl)) (N := 0) (nr := []) .none (by decide) ?_
  rintro ⟨⟨⟩, ⟨⟩⟩ ⟨⟨⟨⟩, ⟨⟩⟩, ⟨(b : List Int), (bad : Bool), ⟨⟩⟩, ⟨⟩⟩
  refine Gives.of_eq (t' := .need true (.need (inR (0 : Int) (List.length ((takeF (b, bad) (1 : Int))).1)) (.ret (rI (IntKind.wrap IntKind.i64 (List.getD ((takeF (b, bad) (1 : Int))).1 0 (0 : Int))), ⟨0, [(100000, .e (.c (.np 1000000000000 0)))], [(1000000000000, .cells 118 [.d (.sl tU (((takeF (b, bad) (1 : Int))).2).1), .d (.v (.bool (((takeF (b, bad) (1 : Int))).2).2))])]⟩)))) (by kernel_rfl) ?_
  have := takeF_len (b, bad) (show (0 : Int) ≤ 1 by omega)
  exact .need rfl (.need (inR_of (by omega) (by omega)) (.refl _))
noncomputable def fn54 := mkFn Tryd.f36
def C54 : Cx := ⟨T, FL, [(20, pmayCtr)], [(55, takeCtr), (54, oneCtr)], [12, FA]⟩
theorem C54_ok : CxOk Tryd.prog C54 := ⟨T_ok, FL_ok, .cons pmay_ok (.nil _), .cons take_ok (.cons one_ok (.nil _))⟩
abbrev CBp : Nat := 1000005000
def nr54 : List NR := [⟨CBp, tInst, 24⟩, ⟨CBp + 1, .str, 9⟩]
def namesF : Nat → Rdr → List ByteArray × Rdr
  | 0, r => ([], r)
  | n + 1, r => (txt (takeF (oneF r).2 (oneF r).1).1 :: (namesF n (takeF (oneF r).2 (oneF r).1).2).1, (namesF n (takeF (oneF r).2 (oneF r).1).2).2)
def instF (l : List Int) : Int × Int := (IntKind.wrap .i64 (l.getD 0 0), num2 (l.getD 1 0) (l.getD 2 0))
def instsF : Nat → Rdr → List (Int × Int) × Rdr
  | 0, r => ([], r)
  | n + 1, r => (instF (takeF r 3).1 :: (instsF n (takeF r 3).2).1, (instsF n (takeF r 3).2).2)
/-- bytes that are bytes -/
def rOk (r : Rdr) : Bool := u8s r.1
theorem takeF_u8 {r : Rdr} (h : rOk r = true) (n : Int) : u8s (takeF r n).1 = true ∧ rOk (takeF r n).2 = true := by
  unfold takeF
  split
  · exact ⟨u8s_rep _, h⟩
  · exact ⟨u8s_take h _, u8s_drop h _⟩
theorem wrap_i64u {n : Int} (h : 0 ≤ n ∧ n ≤ 255) : IntKind.wrap .i64 n = n := wrap_i64 (by omega)
theorem oneF_u8 {r : Rdr} (h : rOk r = true) : 0 ≤ (oneF r).1 ∧ (oneF r).1 ≤ 255 ∧ rOk (oneF r).2 = true := by
  have h1 := takeF_u8 h 1
  have h2 := u8s_at h1.1 0
  unfold oneF
  simp only
  rw [wrap_i64u h2]
  exact ⟨h2.1, h2.2, h1.2⟩
def q54a : Frm := ⟨92, [(2, .np 2 0), (4, .np 12 0), (5, .np 5 0), (31, .dat tI), (32, .dat tI)], [(2, .cells 28 [.nil, .nil]), (5, .cells 28 [.row CBp, .row (CBp + 1)]), (12, .cells 118 [.dat tB, .dat .bool]), (CBp, .row tInst 24), (CBp + 1, .row .str 9)]⟩
def mk54 (x : List (Nat × SV)) (r : Rdr) (L : List (Int × Int)) (N : List ByteArray) : St :=
  ⟨92, [(2, .e (.c (.np 2 0))), (4, .e (.c (.np 12 0))), (5, .e (.c (.np 5 0)))] ++ x, [(2, .cells 28 [.nil, .nil]), (5, .cells 28 [.row CBp, .row (CBp + 1)]), (12, .cells 118 [.d (.sl tU r.1), .d (.v (.bool r.2))]), (CBp, .row tInst 24 L), (CBp + 1, .row .str 9 N)]⟩
def R54a : q54a.V → Tr (Ex × St) := fun ((_, _, _, (n : Int), (k : Int), _), (_, _, ((b : List Int), (bad : Bool), _), (L : List (Int × Int)), (N : List ByteArray), _)) =>
  .need (decide (n ≤ 255 ∧ 0 ≤ k ∧ k ≤ n ∧ N.length ≤ k ∧ rOk (b, bad) = true)) (.ret (.ex 0, mk54 [] (namesF (n - k).toNat (b, bad)).2 L (N ++ (namesF (n - k).toNat (b, bad)).1)))
def q54b : Frm := ⟨92, [(2, .np 2 0), (4, .np 12 0), (5, .np 5 0), (46, .dat tI), (47, .dat tI)], [(2, .cells 28 [.nil, .nil]), (5, .cells 28 [.row CBp, .row (CBp + 1)]), (12, .cells 118 [.dat tB, .dat .bool]), (CBp, .row tInst 24), (CBp + 1, .row .str 9)]⟩
def R54b : q54b.V → Tr (Ex × St) := fun ((_, _, _, (n : Int), (k : Int), _), (_, _, ((b : List Int), (bad : Bool), _), (L : List (Int × Int)), (N : List ByteArray), _)) =>
  .need (decide (n ≤ 255 ∧ 0 ≤ k ∧ k ≤ n ∧ L.length ≤ k ∧ rOk (b, bad) = true)) (.ret (.ex 2, mk54 [] (instsF (n - k).toNat (b, bad)).2 (L ++ (instsF (n - k).toNat (b, bad)).1) N))
def lp54 : LP := [(0, sumP q54a R54a), (2, sumP q54b R54b)]
set_option maxHeartbeats 2000000 in
theorem lp54a_ok : SumOk 0 C54 nr54 lp54 (fn54.at 0) (sumP q54a R54a) := by
  refine .pat q54a R54a (fun v => (v.1.2.2.2.1 - v.1.2.2.2.2.1).toNat) ?_
  rintro ⟨⟨⟨⟩, ⟨⟩, ⟨⟩, (n : Int), (k : Int), ⟨⟩⟩, ⟨⟨⟩, ⟨⟩, ⟨⟩⟩, ⟨⟨⟩, ⟨⟩, ⟨⟩⟩, ⟨(b : List Int), (bad : Bool), ⟨⟩⟩, (L : List (Int × Int)), (N : List ByteArray), ⟨⟩⟩ ih
  refine Gives.run (t' := .ite (decide (k < n)) (.need (decide (((0 : Int) ≤ ((oneF (b, bad))).1) ∧ (((oneF (b, bad))).1 ≤ (1000 : Int)))) (.need true (.need true (.need (decide ((((List.length N) + (List.length [(txt ((takeF ((oneF (b, bad))).2 ((oneF (b, bad))).1)).1)]) : Nat) * (Lay.bytes L9) : Nat) ≤ 140737488355328)) (.need (decide (((0 : Int) ≤ ((oneF (b, bad))).1) ∧ (((oneF (b, bad))).1 ≤ (1000 : Int)))) (.need true (.need true (.need (decide ((((List.length N) + (List.length [(txt ((takeF ((oneF (b, bad))).2 ((oneF (b, bad))).1)).1)]) : Nat) * (Lay.bytes L9) : Nat) ≤ 140737488355328)) (.need (decide ((List.length L) = (List.length L))) (.need (decide ((List.length N) = (List.length N))) (.need (decide ((List.length L) = (List.length L))) (.need (decide ((List.length N) = (List.length N))) (.need (decide ((List.length L) = (List.length L))) (.need (decide ((List.length N) = (List.length N))) (.need (decide ((List.length L) = (List.length L))) (.need (decide ((List.length N) = (List.length N))) (.need (decide (((-(9223372036854775808 : Int) : Int) ≤ (k + (1 : Int) : Int)) ∧ ((k + (1 : Int) : Int) ≤ (9223372036854775807 : Int)))) (.ret (.nx, ⟨92, [(2, .e (.c (.np 2 0))), (4, .e (.c (.np 12 0))), (5, .e (.c (.np 5 0))), (31, rI n), (32, rI (k + (1 : Int) : Int))], [(2, .cells 28 [.nil, .nil]), (5, .cells 28 [.row 1000005000, .row 42]), (12, .cells 118 [.d (.sl tU (((takeF ((oneF (b, bad))).2 ((oneF (b, bad))).1)).2).1), .d (.v (.bool (((takeF ((oneF (b, bad))).2 ((oneF (b, bad))).1)).2).2))]), (42, .row Ty.str 9 (N ++ [(txt ((takeF ((oneF (b, bad))).2 ((oneF (b, bad))).1)).1)])), (1000005000, .row tInst 24 L)]⟩))))))))))))))))))) (.ret (.ex 0, ⟨92, [(2, .e (.c (.np 2 0))), (4, .e (.c (.np 12 0))), (5, .e (.c (.np 5 0)))], [(2, .cells 28 [.nil, .nil]), (5, .cells 28 [.row 1000005000, .row 1000005001]), (12, .cells 118 [.d (.sl tU b), .d (.v (.bool bad))]), (1000005000, .row tInst 24 L), (1000005001, .row Ty.str 9 N)]⟩))) (by kernel_rfl) ?_
  refine .rnd fun ⟨h2, h3, h4, h5, h6⟩ => ?_
  refine .lif (fun hk => ?_) (fun hk => ?_)
  · have e : (n - k).toNat = (n - (k + 1)).toNat + 1 := by omega
    have h1 := oneF_u8 h6
    have hone : 0 ≤ (oneF (b, bad)).1 ∧ (oneF (b, bad)).1 ≤ 1000 := by omega
    have ht := (takeF_u8 h1.2.2 (oneF (b, bad)).1).2
    have hap : (N.length + [txt (takeF (oneF (b, bad)).2 (oneF (b, bad)).1).1].length) * L9.bytes ≤ 140737488355328 := by show (N.length + 1) * 16 ≤ _; omega
    repeat' first | with_reducible refine Gives.lneed (b := true) rfl ?_ | with_reducible refine Gives.lnd hone ?_ | with_reducible refine Gives.lnd hap ?_ | (with_reducible refine Gives.lnd ?_ ?_; focus omega)
    refine Gives.next (σ' := q54a.st (((), (), (), n, k + 1, ()), (((), (), ()), ((), (), ()), ((takeF (oneF (b, bad)).2 (oneF (b, bad)).1).2.1, (takeF (oneF (b, bad)).2 (oneF (b, bad)).1).2.2, ()), L, N ++ [txt (takeF (oneF (b, bad)).2 (oneF (b, bad)).1).1], ()))) (by kernel_rfl) ((ih (((), (), (), n, k + 1, ()), (((), (), ()), ((), (), ()), ((takeF (oneF (b, bad)).2 (oneF (b, bad)).1).2.1, (takeF (oneF (b, bad)).2 (oneF (b, bad)).1).2.2, ()), L, N ++ [txt (takeF (oneF (b, bad)).2 (oneF (b, bad)).1).1], ())) (by simp only; omega)).trans ?_)
    refine .nd ⟨h2, by omega, by omega, by rw [List.length_append]; simp; omega, ht⟩ ?_
    rw [e, namesF, List.append_assoc]
    exact .refl _
  · rw [show (n - k).toNat = 0 by omega]
    simp only [namesF, List.append_nil]
    exact .refl _
set_option maxHeartbeats 2000000 in
theorem lp54b_ok : SumOk 0 C54 nr54 lp54 (fn54.at 2) (sumP q54b R54b) := by
  refine .pat q54b R54b (fun v => (v.1.2.2.2.1 - v.1.2.2.2.2.1).toNat) ?_
  rintro ⟨⟨⟨⟩, ⟨⟩, ⟨⟩, (n : Int), (k : Int), ⟨⟩⟩, ⟨⟨⟩, ⟨⟩, ⟨⟩⟩, ⟨⟨⟩, ⟨⟩, ⟨⟩⟩, ⟨(b : List Int), (bad : Bool), ⟨⟩⟩, (L : List (Int × Int)), (N : List ByteArray), ⟨⟩⟩ ih
  refine Gives.run (t' := .ite (decide (k < n)) (.need true (.need (inR (0 : Int) (List.length ((takeF (b, bad) (3 : Int))).1)) (.need (inR (1 : Int) (List.length ((takeF (b, bad) (3 : Int))).1)) (.need true (.need (inR (2 : Int) (List.length ((takeF (b, bad) (3 : Int))).1)) (.need true (.need (decide ((((List.length L) + (List.length [((IntKind.wrap IntKind.i64 (List.getD ((takeF (b, bad) (3 : Int))).1 0 (0 : Int))), (IntKind.wrap IntKind.i64 (((BitVec.toNat (HOr.hOr (BitVec.ofInt (IntKind.bits IntKind.i64) (IntKind.wrap IntKind.i64 ((IntKind.wrap IntKind.i64 (List.getD ((takeF (b, bad) (3 : Int))).1 1 (0 : Int))) * ((2 : Int) ^ (Min.min 8 (IntKind.bits IntKind.i64)) : Int) : Int))) (BitVec.ofInt (IntKind.bits IntKind.i64) (IntKind.wrap IntKind.i64 (List.getD ((takeF (b, bad) (3 : Int))).1 2 (0 : Int)))))) : Nat) : Int)))]) : Nat) * (Lay.bytes L24) : Nat) ≤ 140737488355328)) (.need (decide (((-(9223372036854775808 : Int) : Int) ≤ (k + (1 : Int) : Int)) ∧ ((k + (1 : Int) : Int) ≤ (9223372036854775807 : Int)))) (.ret (.nx, ⟨92, [(2, .e (.c (.np 2 0))), (4, .e (.c (.np 12 0))), (5, .e (.c (.np 5 0))), (46, rI n), (47, rI (k + (1 : Int) : Int))], [(2, .cells 28 [.nil, .nil]), (5, .cells 28 [.row 69, .row 1000005001]), (12, .cells 118 [.d (.sl tU (((takeF (b, bad) (3 : Int))).2).1), .d (.v (.bool (((takeF (b, bad) (3 : Int))).2).2))]), (69, .row tInst 24 (L ++ [((IntKind.wrap IntKind.i64 (List.getD ((takeF (b, bad) (3 : Int))).1 0 (0 : Int))), (IntKind.wrap IntKind.i64 (((BitVec.toNat (HOr.hOr (BitVec.ofInt (IntKind.bits IntKind.i64) (IntKind.wrap IntKind.i64 ((IntKind.wrap IntKind.i64 (List.getD ((takeF (b, bad) (3 : Int))).1 1 (0 : Int))) * ((2 : Int) ^ (Min.min 8 (IntKind.bits IntKind.i64)) : Int) : Int))) (BitVec.ofInt (IntKind.bits IntKind.i64) (IntKind.wrap IntKind.i64 (List.getD ((takeF (b, bad) (3 : Int))).1 2 (0 : Int)))))) : Nat) : Int)))])), (1000005001, .row Ty.str 9 N)]⟩)))))))))) (.ret (.ex 2, ⟨92, [(2, .e (.c (.np 2 0))), (4, .e (.c (.np 12 0))), (5, .e (.c (.np 5 0)))], [(2, .cells 28 [.nil, .nil]), (5, .cells 28 [.row 1000005000, .row 1000005001]), (12, .cells 118 [.d (.sl tU b), .d (.v (.bool bad))]), (1000005000, .row tInst 24 L), (1000005001, .row Ty.str 9 N)]⟩))) (by kernel_rfl) ?_
  refine .rnd fun ⟨h2, h3, h4, h5, h6⟩ => ?_
  refine .lif (fun hk => ?_) (fun hk => ?_)
  · have e : (n - k).toNat = (n - (k + 1)).toNat + 1 := by omega
    have hl := takeF_len (b, bad) (show (0 : Int) ≤ 3 by omega)
    have ht := (takeF_u8 h6 3).2
    have hap : (L.length + [instF (takeF (b, bad) 3).1].length) * L24.bytes ≤ 140737488355328 := by show (L.length + 1) * 16 ≤ _; omega
    refine .lneed rfl (.lneed (inR_of (by omega) (by omega)) (.lneed (inR_of (by omega) (by omega)) (.lneed rfl (.lneed (inR_of (by omega) (by omega)) (.lneed rfl (.lnd hap (.lnd (by omega) ?_)))))))
    refine Gives.next (σ' := q54b.st (((), (), (), n, k + 1, ()), (((), (), ()), ((), (), ()), ((takeF (b, bad) 3).2.1, (takeF (b, bad) 3).2.2, ()), L ++ [instF (takeF (b, bad) 3).1], N, ()))) (by kernel_rfl) ((ih (((), (), (), n, k + 1, ()), (((), (), ()), ((), (), ()), ((takeF (b, bad) 3).2.1, (takeF (b, bad) 3).2.2, ()), L ++ [instF (takeF (b, bad) 3).1], N, ())) (by simp only; omega)).trans ?_)
    refine .nd ⟨h2, by omega, by omega, by rw [List.length_append]; simp; omega, ht⟩ ?_
    rw [e, instsF, List.append_assoc]
    exact .refl _
  · rw [show (n - k).toNat = 0 by omega]
    simp only [instsF, List.append_nil]
    exact .refl _
theorem lp54_ok : LpsOk 0 C54 nr54 lp54 fn54.loops := by
  refine .all (by kernel_rfl) ?_
  simp only [lp54, List.forall_mem_cons, List.not_mem_nil, false_imp_iff, implies_true, and_true]
  exact ⟨lp54a_ok, lp54b_ok⟩
end Go.Proofs.YtdngaaploooceaaDoor.Sy

/- Contracts: prog.Read. -/
set_option maxRecDepth 100000
namespace Go.Proofs.YtdngaaploooceaaDoor.Sy
open Go.RowKit Kit Go.Proofs
/-- the program of bytes -/
def readF (b : List Int) : Prog × Rdr :=
  let c := oneF (oneF (oneF (b, false)).2).2
  let N := namesF c.1.toNat c.2
  let d := oneF N.2
  let L := instsF d.1.toNat d.2
  ((L.1, N.1), L.2)
def readBad (b : List Int) : Bool := (oneF (oneF (b, false)).2).2.2 || (oneF (b, false)).1 != 88 || (oneF (oneF (b, false)).2).1 != 82
def readE (b : List Int) : Int := if readBad b then 4 else if (readF b).2.2 || decide (0 < (readF b).2.1.length) then 4 else pMay (readF b).1
def readP (b : List Int) : Prog := if readE b = 0 then (readF b).1 else ([], [])
def eP (p : Prog) : EV := .agg ((split tProg p).map .d)
def pReadCtr : Ctr := ctr (one (aVal tB)) fun a => .need (decide (u8s a.1 = true)) (.ret (.tup [eP (readP a.1), eI (readE a.1)], []))
theorem namesF_ok : ∀ (n : Nat) (r : Rdr), rOk r = true → rOk (namesF n r).2 = true
  | 0, _, h => h
  | n + 1, r, h => namesF_ok n _ (takeF_u8 (oneF_u8 h).2.2 _).2
theorem instsF_ok : ∀ (n : Nat) (r : Rdr), rOk r = true → rOk (instsF n r).2 = true
  | 0, _, h => h
  | n + 1, r, h => instsF_ok n _ (takeF_u8 h _).2
set_option maxHeartbeats 4000000 in
theorem pRead_ok : CtrOk Tryd.prog 36 pReadCtr := by
  refine CtrOk.lessC (F := fun a => .need (decide (u8s a.1 = true)) (.ite (readE a.1 != 0) (.ret (.tup [.agg [.nil, .nil], eI (readE a.1)], [])) (.ret (.tup [eP (readF a.1).1, eI 0], [])))) ?_ ?_
  · refine .mk C54_ok mixed (q := fn54) (.of Tryd.func36 (by kernel_rfl)) lp54_ok (by decide) ?_
    rintro ⟨(b : List Int), ⟨⟩⟩ hb
    show Gives _ (.need _ (.ite (readE b != 0) (.ret (SV.tup [.agg [.nil, .nil], eI (readE b)], (⟨0, [], []⟩ : St))) (.ret (SV.tup [eP (readF b).1, eI 0], (⟨0, [], []⟩ : St)))))
    refine .rnd fun h => ?_
    have h : u8s b = true := h
    refine Gives.seq (by kernel_rfl) ?_
    refine Gives.run (t' := .ret (.nx, ⟨92, [(0, rL tU b), (2, .e (.c (.np 2 0)))], [(2, .cells 28 [.nil, .nil])]⟩)) (by kernel_rfl) ?_
    refine Gives.goto rfl (Gives.seq (by kernel_rfl) ?_)
    refine Gives.run (t' := .ret (.nx, ⟨92, [(2, .e (.c (.np 2 0))), (4, .e (.c (.np 12 0)))], [(2, .cells 28 [.nil, .nil]), (12, .cells 118 [.d (.sl tU b), .kb false])]⟩)) (by kernel_rfl) ?_
    refine Gives.goto rfl (Gives.seq (by kernel_rfl) ?_)
    refine Gives.run (t' := .ret (.nx, ⟨92, [(2, .e (.c (.np 2 0))), (4, .e (.c (.np 12 0))), (5, .e (.c (.np 5 0)))], [(2, .cells 28 [.nil, .nil]), (5, .cells 28 [.nil, .nil]), (12, .cells 118 [.d (.sl tU b), .kb false])]⟩)) (by kernel_rfl) ?_
    refine Gives.goto rfl (Gives.seq (by kernel_rfl) ?_)
    refine Gives.run (t' := .ret (.nx, ⟨92, [(2, .e (.c (.np 2 0))), (4, .e (.c (.np 12 0))), (5, .e (.c (.np 5 0))), (6, rI ((oneF (b, false))).1), (7, rI ((oneF ((oneF (b, false))).2)).1)], [(2, .cells 28 [.nil, .nil]), (5, .cells 28 [.nil, .nil]), (12, .cells 118 [.d (.sl tU (((oneF ((oneF (b, false))).2)).2).1), .d (.v (.bool (((oneF ((oneF (b, false))).2)).2).2))])]⟩)) (by kernel_rfl) ?_
    have g1 : rOk (b, false) = true := h
    have g2 := oneF_u8 g1
    have g3 := oneF_u8 g2.2.2
    have hb1 : readBad b = ((oneF (oneF (b, false)).2).2.2 || (oneF (b, false)).1 != 88 || (oneF (oneF (b, false)).2).1 != 82) := rfl
    have hb2 : readF b = ((((instsF (oneF (namesF (oneF (oneF (oneF (b, false)).2).2).1.toNat (oneF (oneF (oneF (b, false)).2).2).2).2).1.toNat (oneF (namesF (oneF (oneF (oneF (b, false)).2).2).1.toNat (oneF (oneF (oneF (b, false)).2).2).2).2).2)).1, (namesF (oneF (oneF (oneF (b, false)).2).2).1.toNat (oneF (oneF (oneF (b, false)).2).2).2).1), (instsF (oneF (namesF (oneF (oneF (oneF (b, false)).2).2).1.toNat (oneF (oneF (oneF (b, false)).2).2).2).2).1.toNat (oneF (namesF (oneF (oneF (oneF (b, false)).2).2).1.toNat (oneF (oneF (oneF (b, false)).2).2).2).2).2).2) := rfl
    unfold readE
    rw [hb2, hb1]
    clear hb1 hb2
    generalize (oneF (b, false)).1 = x at *
    generalize (oneF (oneF (b, false)).2).1 = y at *
    generalize (oneF (oneF (b, false)).2).2 = r2 at *
    obtain ⟨b2, bad2⟩ := r2
    refine Gives.goto (σ' := ⟨92, [(2, .e (.c (.np 2 0))), (4, .e (.c (.np 12 0))), (5, .e (.c (.np 5 0))), (6, rI x), (7, rI y)], [(2, .cells 28 [.nil, .nil]), (5, .cells 28 [.nil, .nil]), (12, .cells 118 [.d (.sl tU b2), .d (.v (.bool bad2))])]⟩) rfl (Gives.seq (by kernel_rfl) ?_)
    refine Gives.run (t' := .ite bad2 (.ret (.rt, ⟨92, [(2, .e (.c (.np 2 0))), (3, rI (4 : Int))], [(2, .cells 28 [.nil, .nil])]⟩)) (.ite (x != (88 : Int)) (.ret (.rt, ⟨92, [(2, .e (.c (.np 2 0))), (3, rI (4 : Int))], [(2, .cells 28 [.nil, .nil])]⟩)) (.ite (y != (82 : Int)) (.ret (.rt, ⟨92, [(2, .e (.c (.np 2 0))), (3, rI (4 : Int))], [(2, .cells 28 [.nil, .nil])]⟩)) (.ret (.nx, ⟨92, [(2, .e (.c (.np 2 0))), (4, .e (.c (.np 12 0))), (5, .e (.c (.np 5 0))), (28, .e (.c (.kb false)))], [(2, .cells 28 [.nil, .nil]), (5, .cells 28 [.nil, .nil]), (12, .cells 118 [.d (.sl tU b2), .d (.v (.bool bad2))])]⟩))))) (by kernel_rfl) ?_
    have hbad : ∀ {e : Bool} {E : Int} {X : Tr (SV × St)}, e = true → E = 4 → Gives ((Tr.ret (Ex.rt, (⟨92, [(2, .e (.c (.np 2 0))), (3, rI (4 : Int))], [(2, .cells 28 [.nil, .nil])]⟩ : St))).bind (fin C54 fn54.rs)) (.ite (E != 0) (.ret (SV.tup [.agg [.nil, .nil], eI E], (⟨0, [], []⟩ : St))) X) := fun he hE => by
      subst hE
      exact Gives.of_eq (t' := .need true (.ret (SV.tup [.agg [.nil, .nil], eI 4], (⟨0, [], []⟩ : St)))) (by kernel_rfl) (.need rfl (.rtt rfl (.refl _)))
    refine .lite (fun hx => ?_) (fun hx => ?_)
    · exact hbad (e := true) rfl (if_pos (by rw [show bad2 = true from hx]; rfl))
    have hx : bad2 = false := hx
    refine .lite (fun hy => ?_) (fun hy => ?_)
    · exact hbad (e := true) rfl (if_pos (by rw [hx, hy]; rfl))
    refine .lite (fun hz => ?_) (fun hz => ?_)
    · exact hbad (e := true) rfl (if_pos (by rw [hx, hy, hz]; rfl))
    rw [if_neg (by rw [hx, hy, hz]; exact Bool.false_ne_true)]
    subst hx
    refine Gives.goto rfl (Gives.seq (by kernel_rfl) ?_)
    have g4 := oneF_u8 g3.2.2
    refine Gives.run (t' := .need (decide ((((oneF (b2, false))).1 ≤ (255 : Int)) ∧ (((0 : Int) ≤ (0 : Int)) ∧ (((0 : Int) ≤ ((oneF (b2, false))).1) ∧ (((((List.length ([] : List ByteArray)) : Nat) : Int) ≤ (0 : Int)) ∧ ((rOk ((oneF (b2, false))).2) = true)))))) (.ret (.nx, ⟨92, [(2, .e (.c (.np 2 0))), (4, .e (.c (.np 12 0))), (5, .e (.c (.np 5 0)))], [(2, .cells 28 [.nil, .nil]), (5, .cells 28 [.row 1000005000, .row 1000005001]), (12, .cells 118 [.d (.sl tU (((namesF (Int.toNat (((oneF (b2, false))).1 - (0 : Int) : Int)) ((oneF (b2, false))).2)).2).1), .d (.v (.bool (((namesF (Int.toNat (((oneF (b2, false))).1 - (0 : Int) : Int)) ((oneF (b2, false))).2)).2).2))]), (1000005000, .row tInst 24 ([] : List (Prod (Ty.El tI) (Ty.El tI)))), (1000005001, .row Ty.str 9 (([] : List ByteArray) ++ ((namesF (Int.toNat (((oneF (b2, false))).1 - (0 : Int) : Int)) ((oneF (b2, false))).2)).1))]⟩))) (by kernel_rfl) ?_
    refine .lnd ⟨by omega, by omega, by omega, by simp, g4.2.2⟩ ?_
    have gN : rOk (namesF (oneF (b2, false)).1.toNat (oneF (b2, false)).2).2 = true := namesF_ok _ _ g4.2.2
    rw [show (oneF (b2, false)).1 - 0 = (oneF (b2, false)).1 by omega]
    generalize namesF (oneF (b2, false)).1.toNat (oneF (b2, false)).2 = NN at *
    obtain ⟨N, r3⟩ := NN
    refine Gives.goto rfl (Gives.seq (by kernel_rfl) ?_)
    refine Gives.run (t' := .need (decide ((((oneF r3)).1 ≤ (255 : Int)) ∧ (((0 : Int) ≤ (0 : Int)) ∧ (((0 : Int) ≤ ((oneF r3)).1) ∧ (((((List.length ([] : List (Prod Int Int))) : Nat) : Int) ≤ (0 : Int)) ∧ ((rOk ((oneF r3)).2) = true)))))) (.ret (.nx, ⟨92, [(2, .e (.c (.np 2 0))), (4, .e (.c (.np 12 0))), (5, .e (.c (.np 5 0)))], [(2, .cells 28 [.nil, .nil]), (5, .cells 28 [.row 1000005000, .row 1000005001]), (12, .cells 118 [.d (.sl tU (((instsF (Int.toNat (((oneF r3)).1 - (0 : Int) : Int)) ((oneF r3)).2)).2).1), .d (.v (.bool (((instsF (Int.toNat (((oneF r3)).1 - (0 : Int) : Int)) ((oneF r3)).2)).2).2))]), (1000005000, .row tInst 24 (([] : List (Prod Int Int)) ++ ((instsF (Int.toNat (((oneF r3)).1 - (0 : Int) : Int)) ((oneF r3)).2)).1)), (1000005001, .row Ty.str 9 (([] : List ByteArray) ++ N))]⟩))) (by kernel_rfl) ?_
    have g5 := oneF_u8 (r := r3) gN
    refine .lnd ⟨by omega, by omega, by omega, by simp, g5.2.2⟩ ?_
    rw [show (oneF r3).1 - 0 = (oneF r3).1 by omega]
    generalize instsF (oneF r3).1.toNat (oneF r3).2 = LL at *
    obtain ⟨L, b4, bad4⟩ := LL
    refine Gives.goto (σ' := mk54 [] (b4, bad4) L N) rfl (Gives.seq (by kernel_rfl) ?_)
    refine Gives.run (t' := .ite bad4 (.ret (.rt, ⟨92, [(2, .e (.c (.np 2 0))), (3, rI (4 : Int))], [(2, .cells 28 [.nil, .nil])]⟩)) (.ite (decide ((0 : Int) < (((List.length b4) : Nat) : Int))) (.ret (.rt, ⟨92, [(2, .e (.c (.np 2 0))), (3, rI (4 : Int))], [(2, .cells 28 [.nil, .nil])]⟩)) (.ret (.nx, ⟨92, [(2, .e (.c (.np 2 0))), (5, .e (.c (.np 5 0))), (83, .e (.c (.kb false)))], [(2, .cells 28 [.nil, .nil]), (5, .cells 28 [.row 1000005000, .row 1000005001]), (12, .cells 118 [.d (.sl tU b4), .d (.v (.bool bad4))]), (1000005000, .row tInst 24 L), (1000005001, .row Ty.str 9 N)]⟩)))) (by kernel_rfl) ?_
    refine .lite (fun hx => ?_) (fun hx => ?_)
    · exact hbad (e := true) rfl (if_pos (by rw [show bad4 = true from hx]; rfl))
    have hx : bad4 = false := hx
    refine .lif (fun hy => ?_) (fun hy => ?_)
    · exact hbad (e := true) rfl (if_pos (by rw [decide_eq_true (show 0 < b4.length by omega)]; simp))
    rw [if_neg (by rw [hx, decide_eq_false (show ¬ 0 < b4.length by omega)]; exact Bool.false_ne_true)]
    refine Gives.goto rfl (Gives.seq (by kernel_rfl) ?_)
    refine Gives.run (t' := .need true (.ite ((pMay (L, N)) != (0 : Int)) (.ret (.rt, ⟨92, [(2, .e (.c (.np 2 0))), (3, rI (pMay (L, N)))], [(2, .cells 28 [.nil, .nil])]⟩)) (.ret (.nx, ⟨92, [(2, .e (.c (.np 2 0))), (5, .e (.c (.np 5 0))), (9, rI (pMay (L, N))), (88, .e (.c (.kb false)))], [(2, .cells 28 [.nil, .nil]), (5, .cells 28 [.row 1000005000, .row 1000005001]), (12, .cells 118 [.d (.sl tU b4), .d (.v (.bool bad4))]), (1000005000, .row tInst 24 L), (1000005001, .row Ty.str 9 N)]⟩)))) (by kernel_rfl) ?_
    refine .lneed rfl (.lite (fun hz => ?_) (fun hz => ?_))
    · exact Gives.of_eq (t' := .need true (.ret (SV.tup [.agg [.nil, .nil], eI (pMay (L, N))], (⟨0, [], []⟩ : St)))) (by kernel_rfl) (.need rfl (.rtt hz (.refl _)))
    have hz : (pMay (L, N) != 0) = false := hz
    refine Gives.goto rfl ?_
    exact Gives.of_eq (t' := .need true (.need true (.ret (SV.tup [eP (L, N), eI 0], (⟨0, [], []⟩ : St))))) (by kernel_rfl) (.need rfl (.need rfl (.rff hz (.refl _))))
  · rintro ⟨(b : List Int), ⟨⟩⟩
    show LessT _ (.need _ (.ret (SV.tup [eP (readP b), eI (readE b)], (⟨0, [], []⟩ : St))))
    refine .rneed fun h => .need h (.ite (fun hz => ?_) (fun hz => ?_))
    · have hz : (readE b != 0) = true := hz
      rw [show readP b = ([], []) by unfold readP; rw [if_neg (by simpa using hz)]]
      refine .ret (Less.tup1 fun M β v hv => ?_)
      obtain ⟨vs, e, hs⟩ := hv
      refine ⟨vs, e, ?_⟩
      generalize vs.toList = us at hs ⊢
      cases hs with
      | cons h1 h2 h3 =>
        cases h3 with
        | cons h4 h5 h6 =>
          cases h6
          exact .cons (EVR.nilL (β := β) (t := tInst) h1) h2 (.cons (EVR.nilL (β := β) (t := .str) h4) h5 .nil)
    · have hz : readE b = 0 := by simpa using hz
      rw [show readP b = (readF b).1 by unfold readP; rw [if_pos hz], hz]
      exact .ret (.refl _)
end Go.Proofs.YtdngaaploooceaaDoor.Sy

/- Contracts: noughts; numbers in digits; cuts at a nought. -/
set_option maxRecDepth 100000
namespace Go.Proofs.YtdngaaploooceaaDoor.Sy
open Go.RowKit Kit Go.Proofs
/-! ### bytes.Trim, of noughts -/
def nulS : ByteArray := ⟨#[0]⟩
def trimLCtr : Ctr := ctr (two (aVal tB) aU) fun a => slN (trimL a.2.1 a.1)
def trimRCtr : Ctr := ctr (two (aVal tB) aU) fun a => ans (rL tU (trimR a.2.1 a.1))
noncomputable def fn67 := mkFn Tryd.f30
def C67 : Cx := ⟨T, [], [(46, trimLCtr), (47, trimRCtr)], [], [FA]⟩
theorem C67_ok : CxOk Tryd.prog C67 := ⟨T_ok, .nil _, .cons trimL_ok (.cons trimR_ok (.nil _)), .nil _⟩
def trimCtr : Ctr := ctr (two (aVal tB) aS) fun a => .need (decide (a.2.1 = nulS)) (ans (rL tU (trimL 0 (trimR 0 a.1))))
theorem trim_ok : CtrOk Tryd.prog 30 trimCtr := by
  refine CtrOk.lessC (F := fun a => .need (decide (a.2.1 = nulS)) (.ite a.1.isEmpty (.ret (.e (.c .nil), [])) (slN (trimL 0 (trimR 0 a.1))))) ?_ ?_
  · refine .mk C67_ok mixed (q := fn67) (.of Tryd.func30 (by kernel_rfl)) (N := 0) (nr := []) .none (by decide) ?_
    rintro ⟨(l : List Int), (c : ByteArray), ⟨⟩⟩ hb
    refine .rneed fun h => ?_
    have h : c = nulS := of_decide_eq_true h
    subst h
    refine Gives.of_eq (t' := .ite ((((List.length l) : Nat) : Int) == (0 : Int)) (.ret (.e (.c (.nil)), ⟨0, [], []⟩)) (.ite false (.ret (rL tU l, ⟨0, [], []⟩)) (.need true (.need true (.need true (.need true (.need true (.ite (List.isEmpty (trimL (bt nulS (0 : Int)) (trimR (bt nulS (0 : Int)) l))) (.ret (.e (.c (.nil)), ⟨0, [], []⟩)) (.ret (rL tU (trimL (bt nulS (0 : Int)) (trimR (bt nulS (0 : Int)) l)), ⟨0, [], []⟩)))))))))) (by kernel_rfl) ?_
    show Gives _ (.ite l.isEmpty (.ret (.e (.c .nil), (⟨0, [], []⟩ : St))) ((slN (trimL 0 (trimR 0 l))).bind fun r => .ret (r.1, ⟨0, [], r.2⟩)))
    cases l with
    | nil => exact .tt rfl (.rtt rfl (.refl _))
    | cons x r =>
      refine .ff (by simp; omega) (.rff rfl (.ff rfl (.need rfl (.need rfl (.need rfl (.need rfl (.need rfl ?_)))))))
      rw [show bt nulS 0 = 0 by decide +kernel]
      exact .ites (fun _ => .refl _) (fun _ => .refl _)
  · rintro ⟨(l : List Int), (c : ByteArray), ⟨⟩⟩
    show LessT _ (.need _ (.ret (rL tU (trimL 0 (trimR 0 l)), (⟨0, [], []⟩ : St))))
    refine .rneed fun h => .need h (.ite (fun hz => ?_) (fun _ => .ite (fun hz => ?_) (fun hz => ?_)))
    · have : l = [] := List.isEmpty_iff.1 hz
      subst this
      exact .ret ⟨fun M β v hv => EVR.nilL (β := β) (t := tU) hv, rfl, rfl, fun _ _ h => h⟩
    · have : trimL 0 (trimR 0 l) = [] := List.isEmpty_iff.1 hz
      rw [this]
      exact .ret ⟨fun M β v hv => EVR.nilL (β := β) (t := tU) hv, rfl, rfl, fun _ _ h => h⟩
    · exact .ret (.refl _)
theorem trimL_nil {l : List Int} : trimL 0 l = [] ↔ l.all (· == 0) = true := by
  induction l with
  | nil => simp [trimL]
  | cons x r ih =>
    rw [trimL]
    split
    · rename_i h; rw [ih, List.all_cons, h, Bool.true_and]
    · rename_i h; simp [h]
theorem all_rev {l : List Int} : (l.reverse).all (· == (0 : Int)) = l.all (· == 0) := by simp
theorem trim_zero (l : List Int) : trimL 0 (trimR 0 l) = [] ↔ l.all (· == 0) = true := by
  rw [trimL_nil]
  unfold trimR
  rw [all_rev]
  have key : ∀ m : List Int, (trimL 0 m).all (· == 0) = m.all (· == 0) := fun m => by
    induction m with
    | nil => rfl
    | cons x r ih =>
      rw [trimL]
      split
      · rename_i h; rw [ih, List.all_cons, h, Bool.true_and]
      · rfl
  rw [key, all_rev]
noncomputable def fn52 := mkFn Tryd.f13
def C52 : Cx := ⟨T, [], [(30, trimCtr)], [], []⟩
theorem C52_ok : CxOk Tryd.prog C52 := ⟨T_ok, .nil _, .cons trim_ok (.nil _), .nil _⟩
def zeroF (l : List Int) : Bool := l.all (· == 0)
def zeroCtr : Ctr := ctr (one (aVal tB)) fun a => ans (rB (zeroF a.1))
theorem zero_ok : CtrOk Tryd.prog 13 zeroCtr := by
  refine .mk C52_ok mixed (q := fn52) (.of Tryd.func13 (by kernel_rfl)) (N := 0) (nr := []) .none (by decide) ?_
  rintro ⟨(l : List Int), ⟨⟩⟩ hb
  refine Gives.of_eq (t' := .need true (.ret (rB ((((List.length (trimL (0 : Int) (trimR (0 : Int) l))) : Nat) : Int) == (0 : Int)), ⟨0, [], []⟩))) (by kernel_rfl) ?_
  refine .need rfl ?_
  have e : ((((trimL 0 (trimR 0 l)).length : Nat) : Int) == (0 : Int)) = zeroF l := by
    rw [Bool.eq_iff_iff, beq_iff_eq]
    unfold zeroF
    rw [← trim_zero, ← List.length_eq_zero_iff]; omega
  rw [e]; exact .refl _

/-! ### tar.number -/
def nextN (n c : Int) : Int := IntKind.wrap .i64 ((BitVec.toNat (BitVec.ofInt 64 (IntKind.wrap .i64 (n * 2 ^ 3)) ||| BitVec.ofInt 64 (IntKind.wrap .i64 (IntKind.wrap .u8 (c - 48)))) : Nat) : Int)
def numL : Int → List Int → Int × Bool
  | n, [] => (n, true)
  | n, c :: r => if c < 48 ∨ 55 < c ∨ 65536 < n then (0, false) else numL (nextN n c) r
noncomputable def fn68 := mkFn Tryd.f33
def q68 : Frm := ⟨31, [(4, .dat tI), (7, .dat tB), (8, .dat tI), (9, .dat tI)], []⟩
def R68 : q68.V → Tr (Ex × St) := fun (((n : Int), (l : List Int), (m : Int), (k : Int), _), _) =>
  .need (decide (m = l.length ∧ m ≤ 9223372036854775807 ∧ 0 ≤ k ∧ k ≤ m)) (.ite (numL n (l.drop k.toNat)).2 (.ret (.ex 0, ⟨31, [(4, rI (numL n (l.drop k.toNat)).1)], []⟩)) (.ret (.rt, ⟨31, [(2, rI 0), (3, .e (.c (.kb false)))], []⟩)))
def lp68 : LP := [(0, sumP q68 R68)]
theorem lp68_ok : LpsOk 0 C0 [] lp68 fn68.loops := by
  refine .all (by kernel_rfl) ?_
  simp only [lp68, List.forall_mem_cons, List.not_mem_nil, false_imp_iff, implies_true, and_true]
  refine .pat q68 R68 (fun v => (v.1.2.2.1 - v.1.2.2.2.1).toNat) ?_
  rintro ⟨⟨(n : Int), (l : List Int), (m : Int), (k : Int), ⟨⟩⟩, ⟨⟩⟩ ih
  refine Gives.run (t' := .ite (decide (k < m)) (.need (inR k (List.length l)) (.ite (decide ((List.getD l (Int.toNat k) (0 : Int)) < (48 : Int))) (.ret (.rt, ⟨31, [(2, rI (0 : Int)), (3, .e (.c (.kb false)))], []⟩)) (.ite (decide ((55 : Int) < (List.getD l (Int.toNat k) (0 : Int)))) (.ret (.rt, ⟨31, [(2, rI (0 : Int)), (3, .e (.c (.kb false)))], []⟩)) (.ite (decide ((65536 : Int) < n)) (.ret (.rt, ⟨31, [(2, rI (0 : Int)), (3, .e (.c (.kb false)))], []⟩)) (.need true (.need (decide (((-(9223372036854775808 : Int) : Int) ≤ (k + (1 : Int) : Int)) ∧ ((k + (1 : Int) : Int) ≤ (9223372036854775807 : Int)))) (.ret (.nx, ⟨31, [(4, rI (IntKind.wrap IntKind.i64 (((BitVec.toNat (HOr.hOr (BitVec.ofInt (IntKind.bits IntKind.i64) (IntKind.wrap IntKind.i64 (n * ((2 : Int) ^ (Min.min 3 (IntKind.bits IntKind.i64)) : Int) : Int))) (BitVec.ofInt (IntKind.bits IntKind.i64) (IntKind.wrap IntKind.i64 (IntKind.wrap IntKind.u8 ((List.getD l (Int.toNat k) (0 : Int)) - (48 : Int) : Int)))))) : Nat) : Int))), (7, rL tU l), (8, rI m), (9, rI (k + (1 : Int) : Int))], []⟩)))))))) (.ret (.ex 0, ⟨31, [(4, rI n)], []⟩))) (by kernel_rfl) ?_
  refine .rnd fun ⟨h1, h2, h3, h4⟩ => ?_
  refine .lif (fun hk => ?_) (fun hk => ?_)
  · have e : (k + 1).toNat = k.toNat + 1 := by omega
    rw [drop_at l k.toNat 0 (by omega)]
    refine .lneed (inR_of h3 (by omega)) ?_
    generalize l.getD k.toNat 0 = x
    have hbad : (x < 48 ∨ 55 < x ∨ 65536 < n) → (numL n (x :: l.drop (k.toNat + 1))).2 = false := fun h => by rw [numL, if_pos h]
    refine .lif (fun hx => ?_) (fun hx => ?_)
    · exact .rff (hbad (.inl hx)) (.refl _)
    refine .lif (fun hy => ?_) (fun hy => ?_)
    · exact .rff (hbad (.inr (.inl hy))) (.refl _)
    refine .lif (fun hz => ?_) (fun hz => ?_)
    · exact .rff (hbad (.inr (.inr hz))) (.refl _)
    have hg : numL n (x :: l.drop (k.toNat + 1)) = numL (nextN n x) (l.drop (k.toNat + 1)) := by
      rw [numL, if_neg (by rw [not_or, not_or]; exact ⟨hx, hy, hz⟩)]
    rw [hg]
    refine .lneed rfl (.lnd (by omega) ?_)
    refine Gives.next (σ' := q68.st ((nextN n x, l, m, k + 1, ()), ())) (by kernel_rfl) ((ih ((nextN n x, l, m, k + 1, ()), ()) (by simp only; omega)).trans ?_)
    refine .nd ⟨h1, h2, by omega, by omega⟩ ?_
    rw [e]; exact .refl _
  · rw [List.drop_eq_nil_of_le (by omega)]
    exact .rtt rfl (.refl _)
theorem numL_bad : ∀ {l : List Int} {n : Int}, (numL n l).2 = false → (numL n l).1 = 0
  | [], _, h => by cases h
  | c :: r, n, h => by
    rw [numL] at h ⊢
    split at h
    · rename_i hc; rw [if_pos hc]
    · rename_i hc; rw [if_neg hc]; exact numL_bad h
def tnumCtr : Ctr := ctr (one (aVal tB)) fun a => .ret (.tup [eI (numL 0 a.1).1, eB (numL 0 a.1).2], [])
theorem tnum_ok : CtrOk Tryd.prog 33 tnumCtr := by
  refine .mk C0_ok mixed (q := fn68) (.of Tryd.func33 (by kernel_rfl)) lp68_ok (by decide) ?_
  rintro ⟨(l : List Int), ⟨⟩⟩ hb
  have hl : l.length ≤ 9223372036854775807 := hb.1.1
  refine Gives.of_eq (t' := .need (decide (((((List.length l) : Nat) : Int) = (((List.length l) : Nat) : Int)) ∧ (((((List.length l) : Nat) : Int) ≤ (9223372036854775807 : Int)) ∧ (((0 : Int) ≤ (0 : Int)) ∧ ((0 : Int) ≤ (((List.length l) : Nat) : Int)))))) (.ite ((numL (0 : Int) (List.drop 0 l))).2 (.ret (.tup [.c (.d (.v (.int .i64 ((numL (0 : Int) (List.drop 0 l))).1))), .c (.d (.v (.bool true)))], ⟨0, [], []⟩)) (.ret (.tup [.c (.d (.v (.int .i64 (0 : Int)))), .c (.d (.v (.bool false)))], ⟨0, [], []⟩)))) (by kernel_rfl) ?_
  show Gives _ (.ret (SV.tup [eI (numL 0 l).1, eB (numL 0 l).2], (⟨0, [], []⟩ : St)))
  rw [List.drop_zero]
  refine .nd (by omega) (.ite (fun h => ?_) (fun h => ?_))
  · rw [h]; exact .refl _
  · rw [h, numL_bad h]; exact .refl _
theorem wrap_i64n {n : Int} (h : 0 ≤ n ∧ n ≤ 9223372036854775807) : IntKind.wrap .i64 n = n := wrap_i64 (by omega)
theorem or_sum {n d : Int} (hn : 0 ≤ n ∧ n ≤ 1000000) {k : Nat} (hk : k ≤ 8) (hd : 0 ≤ d ∧ d < 2 ^ k) : IntKind.wrap .i64 ((BitVec.toNat (BitVec.ofInt 64 (IntKind.wrap .i64 (n * 2 ^ k)) ||| BitVec.ofInt 64 (IntKind.wrap .i64 d)) : Nat) : Int) = n * 2 ^ k + d := by
  obtain ⟨a, rfl⟩ := Int.eq_ofNat_of_zero_le hn.1
  obtain ⟨b, rfl⟩ := Int.eq_ofNat_of_zero_le hd.1
  have hp : (2 : Nat) ^ k ≤ 256 := by
    have := Nat.pow_le_pow_right (show 0 < 2 by omega) hk
    simpa using this
  have ha : a ≤ 1000000 := by omega
  have hb : b < 2 ^ k := by exact_mod_cast hd.2
  have hab : a * 2 ^ k ≤ 256000000 := by
    calc a * 2 ^ k ≤ 1000000 * 256 := Nat.mul_le_mul ha hp
      _ = 256000000 := rfl
  rw [show ((a : Int) * 2 ^ k) = ((a * 2 ^ k : Nat) : Int) by push_cast; rfl]
  rw [wrap_i64n (n := ((a * 2 ^ k : Nat) : Int)) (by omega), wrap_i64n (n := (b : Int)) (by omega)]
  rw [BitVec.toNat_or, BitVec.toNat_ofInt, BitVec.toNat_ofInt]
  have e1 : (((a * 2 ^ k : Nat) : Int) % ((2 ^ 64 : Nat) : Int)).toNat = a * 2 ^ k := by omega
  have e2 : (((b : Nat) : Int) % ((2 ^ 64 : Nat) : Int)).toNat = b := by omega
  rw [e1, e2]
  have e3 : a * 2 ^ k ||| b = a * 2 ^ k + b := by
    rw [← Nat.shiftLeft_eq, Nat.shiftLeft_add_eq_or_of_lt hb]
  rw [e3, wrap_i64n (by omega)]
  push_cast; rfl
theorem nextN_eq {n c : Int} (hn : 0 ≤ n ∧ n ≤ 65536) (hc : 48 ≤ c ∧ c ≤ 55) : nextN n c = n * 8 + (c - 48) := by
  have hw : IntKind.wrap .u8 (c - 48) = c - 48 := by
    have e : IntKind.wrap .u8 (c - 48) = (c - 48) % 256 := by simp [IntKind.wrap, IntKind.bits, IntKind.signed]
    omega
  unfold nextN
  rw [hw]
  exact or_sum (k := 3) (by omega) (by omega) (by omega)
theorem numL_le : ∀ (l : List Int) (n : Int), 0 ≤ n ∧ n ≤ 524295 → (numL n l).2 = true → 0 ≤ (numL n l).1 ∧ (numL n l).1 ≤ 524295
  | [], n, h, _ => h
  | c :: r, n, h, h2 => by
    rw [numL] at h2 ⊢
    split at h2
    · cases h2
    · rename_i hc
      rw [not_or, not_or] at hc
      rw [if_neg (by rw [not_or, not_or]; exact hc)]
      have e := nextN_eq (n := n) (c := c) (by omega) (by omega)
      exact numL_le r (nextN n c) (by omega) h2

/-! ### bytes.Cut, at a nought -/
noncomputable def fn88 := mkFn Tryd.f53
def idxBCtr : Ctr := ctr (two (aVal tB) aU) fun a => ans (rI (idxB a.1 a.2.1))
def C88 : Cx := ⟨T, [], [(68, idxBCtr)], [], []⟩
theorem C88_ok : CxOk Tryd.prog C88 := ⟨T_ok, .nil _, .cons idxB_ok (.nil _), .nil _⟩
def nulCtr : Ctr := ctr (two (aVal tB) (aVal tB)) fun a => .need (decide (a.2.1 = [0])) (ans (rI (idxB a.1 0)))
theorem bindex_ok : CtrOk Tryd.prog 53 nulCtr := by
  refine .mk C88_ok mixed (q := fn88) (.of Tryd.func53 (by kernel_rfl)) (N := 0) (nr := []) .none (by decide) ?_
  rintro ⟨(l : List Int), (c : List Int), ⟨⟩⟩ -
  show Gives _ (.need _ (.ret (rI (idxB l 0), (⟨0, [], []⟩ : St))))
  refine .rnd fun h => ?_
  have h : c = [0] := h
  subst h
  refine Gives.of_eq (t' := .ite false (.ret (rI (0 : Int), ⟨0, [], []⟩)) (.ite true (.need true (.ret (rI (idxB l (List.getD [(0 : Int)] 0 (0 : Int))), ⟨0, [], []⟩))) (.ite ((((List.length [(0 : Int)]) : Nat) : Int) == (((List.length l) : Nat) : Int)) (.fail) (.need (decide ((((List.length l) : Nat) : Int) < (((List.length [(0 : Int)]) : Nat) : Int))) (.ret (rI (-(1 : Int) : Int), ⟨0, [], []⟩)))))) (by kernel_rfl) ?_
  exact .ff rfl (.tt rfl (.need rfl (.refl _)))
noncomputable def fn69 := mkFn Tryd.f34
def C69 : Cx := ⟨T, [], [(53, nulCtr)], [], []⟩
theorem C69_ok : CxOk Tryd.prog C69 := ⟨T_ok, .nil _, .cons bindex_ok (.nil _), .nil _⟩
def cutN (l : List Int) : List Int := if 0 ≤ idxB l 0 then l.take (idxB l 0).toNat else l
def cutNCtr : Ctr := ctr (two (aVal tB) (aVal tB)) fun a => .need (decide (a.2.1 = [0] ∧ a.1.length ≤ 1000000)) (.ret (.tup [eL tU (cutN a.1), .c .any, .c .any], []))
theorem idxB_le (l : List Int) (c : Int) : -1 ≤ idxB l c ∧ idxB l c < l.length := by
  have := indexByte_le (Lib.bytesOf l) c.toNat.toUInt8
  rwa [show (Lib.bytesOf l).length = l.length by simp [Lib.bytesOf]] at this
theorem EVs.any23 {M : Snap} {β : Plc} {x y z : EV} {vs : List Value} (h : EVs M β [x, y, z] vs) : EVs M β [x, .c .any, .c .any] vs := by
  cases h with
  | cons h1 h2 =>
    cases h2 with
    | cons h3 h4 =>
      cases h4 with
      | cons h5 h6 => exact .cons h1 (.cons trivial (.cons trivial h6))
theorem bcut_ok : CtrOk Tryd.prog 34 cutNCtr := by
  refine CtrOk.lessC (F := fun a => .need (decide (a.2.1 = [0] ∧ a.1.length ≤ 1000000)) (.ite (decide (0 ≤ idxB a.1 0)) (.ret (.tup [eL tU (a.1.take (idxB a.1 0).toNat), eL tU (a.1.drop ((idxB a.1 0).toNat + 1)), eB true], [])) (.ret (.tup [eL tU a.1, .c .nil, eB false], [])))) ?_ ?_
  · refine .mk C69_ok mixed (q := fn69) (.of Tryd.func34 (by kernel_rfl)) (N := 0) (nr := []) .none (by decide) ?_
    rintro ⟨(l : List Int), (c : List Int), ⟨⟩⟩ -
    refine .rnd fun ⟨h, hl⟩ => ?_
    have h : c = [0] := h
    have hl : l.length ≤ 1000000 := hl
    subst h
    have hi := idxB_le l 0
    refine Gives.of_eq (t' := .need true (.ite (decide ((0 : Int) ≤ (idxB l (0 : Int)))) (.need (okB (0 : Int) (idxB l (0 : Int)) (List.length l)) (.need (decide (((-(9223372036854775808 : Int) : Int) ≤ ((idxB l (0 : Int)) + (((List.length [(0 : Int)]) : Nat) : Int) : Int)) ∧ (((idxB l (0 : Int)) + (((List.length [(0 : Int)]) : Nat) : Int) : Int) ≤ (9223372036854775807 : Int)))) (.need (okB ((idxB l (0 : Int)) + (((List.length [(0 : Int)]) : Nat) : Int) : Int) (((List.length l) : Nat) : Int) (List.length l)) (.ret (.tup [.c (.d (.sl tU (List.drop 0 (List.take (Int.toNat (idxB l (0 : Int))) l)))), .c (.d (.sl tU (List.drop (Int.toNat ((idxB l (0 : Int)) + (((List.length [(0 : Int)]) : Nat) : Int) : Int)) (List.take (List.length l) l)))), .c (.d (.v (.bool true)))], ⟨0, [], []⟩))))) (.ret (.tup [.c (.d (.sl tU l)), .c (.nil), .c (.d (.v (.bool false)))], ⟨0, [], []⟩)))) (by kernel_rfl) ?_
    refine .need rfl (.ites (fun hz => ?_) (fun _ => .refl _))
    have hz : 0 ≤ idxB l 0 := of_decide_eq_true hz
    refine .need (by simp [okB]; omega) (.nd (by simp; omega) (.need (by simp [okB]; omega) ?_))
    rw [List.drop_zero, List.take_length, show (idxB l 0 + (([(0 : Int)].length : Nat) : Int)).toNat = (idxB l 0).toNat + 1 by simp; omega]
    exact .refl _
  · rintro ⟨(l : List Int), (c : List Int), ⟨⟩⟩
    show LessT _ (.need _ (.ret (SV.tup [eL tU (cutN l), .c .any, .c .any], (⟨0, [], []⟩ : St))))
    refine .rneed fun h => .need h (.ite (fun hz => ?_) (fun hz => ?_))
    · have hz : 0 ≤ idxB l 0 := of_decide_eq_true hz
      rw [show cutN l = l.take (idxB l 0).toNat by unfold cutN; rw [if_pos hz]]
      exact .ret ⟨fun M β v hv => by obtain ⟨vs, e, h⟩ := hv; exact ⟨vs, e, h.any23⟩, rfl, rfl, fun _ _ h => h⟩
    · have hz : ¬ 0 ≤ idxB l 0 := of_decide_eq_false hz
      rw [show cutN l = l by unfold cutN; rw [if_neg hz]]
      exact .ret ⟨fun M β v hv => by obtain ⟨vs, e, h⟩ := hv; exact ⟨vs, e, h.any23⟩, rfl, rfl, fun _ _ h => h⟩
end Go.Proofs.YtdngaaploooceaaDoor.Sy

/- Contracts: a file of an archive. -/
set_option maxRecDepth 100000
namespace Go.Proofs.YtdngaaploooceaaDoor.Sy
open Go.RowKit Kit Go.Proofs
noncomputable def fn53 := mkFn Tryd.f14
def cloneCtr : Ctr := ctr (one (aVal tB)) fun a => .need (decide (a.1.length ≤ 140737488355328)) (ans (rL tU a.1))
def equalCtr : Ctr := ctr (two (aVal tB) (aVal tB)) fun a => .need (u8s a.1 && u8s a.2.1) (ans (rB (a.1 == a.2.1)))
noncomputable def C53 : Cx := ⟨T, FL, [(16, equalCtr), (31, octCtr), (32, sumCtr), (33, tnumCtr), (19, blocksCtr), (34, cutNCtr), (35, cloneCtr), (17, tMayCtr), (18, headCtr), (13, zeroCtr)], [], []⟩
theorem C53_ok : CxOk Tryd.prog C53 := ⟨T_ok, FL_ok, .cons equal_ok (.cons octal_ok (.cons sum_ok (.cons tnum_ok (.cons blocks_ok (.cons bcut_ok (.cons clone_ok (.cons tMay_ok (.cons head_ok (.cons zero_ok (.nil _)))))))))), .nil _⟩
abbrev eF (f : File) : EV := .agg ((split tFile f).map .d)
def sumOk (h : List Int) : Bool := ((h.take 156).drop 148) == (octal (sumF 0 h) 6 ++ [32])
def oneN (h : List Int) : Int × Bool := numL 0 ((h.take 135).drop 124)
def oneFl (h r : List Int) : File := (txt (cutN (h.take 100)), h.getD 156 0 == 53, r.take (oneN h).1.toNat)
/-- a head and what stands behind it: why it is no file's -/
def oneE (h r : List Int) : Int :=
  if sumOk h = false then 14
  else if (oneN h).2 = false ∨ (r.length : Int) < blocksF (oneN h).1 * 512 then 4
  else if tMay [oneFl h r] ≠ 0 ∨ ¬ headF (oneFl h r) = h ∨ zeroF ((r.take (blocksF (oneN h).1 * 512).toNat).drop (oneN h).1.toNat) = false then 4 else 0
def oneR (h r : List Int) : List Int := if oneE h r = 0 then r.drop (blocksF (oneN h).1 * 512).toNat else []
def oneF' (h r : List Int) : File := if oneE h r = 0 then oneFl h r else (ByteArray.empty, false, [])
def oneFCtr : Ctr := ctr (one (aVal tB)) fun a => .need (decide (u8s a.1 = true ∧ 512 ≤ a.1.length ∧ a.1.length ≤ 1000000000)) (.ret (.tup [eF (oneF' (a.1.take 512) (a.1.drop 512)), eL tU (oneR (a.1.take 512) (a.1.drop 512)), eI (oneE (a.1.take 512) (a.1.drop 512))], []))
theorem headA_u8 (f : File) : u8s (headA f) = true := by
  unfold headA
  refine u8s_cp (u8s_set (u8s_cp (u8s_cp (u8s_cp (u8s_cp (u8s_cp (u8s_cp0 (u8s_rep _) (u8s_strB _)) (octal_u8 _ _) _) (octal_u8 _ _) _) (octal_u8 _ _) _) (octal_u8 _ _) _) (octal_u8 _ _) _) _ ?_) (by decide +kernel : u8s ustar = true) _
  split <;> rfl
theorem headF_u8 (f : File) : u8s (headF f) = true := by
  unfold headF
  exact u8s_cp (headA_u8 f) (by rw [u8s_app, octal_u8]; rfl) _
set_option maxHeartbeats 4000000 in
theorem oneT_ok : CtrOk Tryd.prog 14 (ctr (one (aVal tB)) fun a => .need (decide (u8s a.1 = true ∧ 512 ≤ a.1.length ∧ a.1.length ≤ 1000000000)) (.ite (oneE (a.1.take 512) (a.1.drop 512) != 0) (.ret (.tup [.agg [.d (.v (.string ByteArray.empty)), .d (.v (.bool false)), .nil], .c .nil, eI (oneE (a.1.take 512) (a.1.drop 512))], []))
    (.ret (.tup [eF (oneFl (a.1.take 512) (a.1.drop 512)), eL tU ((a.1.drop 512).drop (blocksF (oneN (a.1.take 512)).1 * 512).toNat), eI 0], [])))) := by
  refine .mk C53_ok mixed (q := fn53) (.of Tryd.func14 (by kernel_rfl)) (N := 0) (nr := []) .none (by decide) ?_
  rintro ⟨(b : List Int), ⟨⟩⟩ -
  refine .rnd fun ⟨h1, h2, h3⟩ => ?_
  have h1 : u8s b = true := h1
  have h2 : 512 ≤ b.length := h2
  have h3 : b.length ≤ 1000000000 := h3
  have hu := u8s_take h1 512
  have hl : (b.take 512).length = 512 := by rw [List.length_take]; omega
  show Gives _ (.ite (oneE (b.take 512) (b.drop 512) != 0) (.ret (SV.tup [.agg [.d (.v (.string ByteArray.empty)), .d (.v (.bool false)), .nil], .c .nil, eI (oneE (b.take 512) (b.drop 512))], (⟨0, [], []⟩ : St)))
    (.ret (SV.tup [eF (oneFl (b.take 512) (b.drop 512)), eL tU ((b.drop 512).drop (blocksF (oneN (b.take 512)).1 * 512).toNat), eI 0], (⟨0, [], []⟩ : St))))
  refine Gives.seq (by kernel_rfl) ?_
  refine Gives.run (t' := .ret (.nx, ⟨90, [(0, rL tU b), (2, .e (.c (.np 2 0)))], [(2, .cells 55 [.d (.v (.string (ByteArray.mk (List.toArray ([] : List UInt8))))), .kb false, .nil])]⟩)) (by kernel_rfl) ?_
  refine Gives.goto rfl (Gives.seq (by kernel_rfl) ?_)
  refine Gives.run (t' := .need (okB (0 : Int) (512 : Int) (List.length b)) (.ret (.nx, ⟨90, [(0, rL tU b), (2, .e (.c (.np 2 0))), (5, rL tU (List.drop 0 (List.take 512 b)))], [(2, .cells 55 [.d (.v (.string (ByteArray.mk (List.toArray ([] : List UInt8))))), .kb false, .nil])]⟩))) (by kernel_rfl) ?_
  refine .lneed (by simp [okB]; omega) ?_
  refine Gives.goto (σ' := ⟨90, [(0, rL tU b), (2, .e (.c (.np 2 0))), (5, rL tU (b.take 512))], [(2, .cells 55 [.d (.v (.string ByteArray.empty)), .kb false, .nil])]⟩) (by rw [List.drop_zero]; kernel_rfl) ?_
  generalize b.take 512 = h at hu hl ⊢
  have ho6 := octal_len (sumF 0 h) 6
  refine Gives.seq (by kernel_rfl) ?_
  refine Gives.run (t' := .need (okB (148 : Int) (156 : Int) (List.length h)) (.need (decide (((List.length h) ≤ 1000000000000) ∧ ((u8s h) = true))) (.need true (.need true (.need true (.need ((u8s (List.drop 148 (List.take 156 h))) && (u8s ((octal (sumF 0 h) (6 : Int)) ++ [(32 : Int)]))) (.ite (!((List.drop 148 (List.take 156 h)) == ((octal (sumF 0 h) (6 : Int)) ++ [(32 : Int)]))) (.ret (.rt, ⟨90, [(2, .e (.c (.np 2 0))), (3, .e (.c (.nil))), (4, rI (14 : Int))], [(2, .cells 55 [.d (.v (.string (ByteArray.mk (List.toArray ([] : List UInt8))))), .kb false, .nil])]⟩)) (.ret (.nx, ⟨90, [(0, rL tU b), (2, .e (.c (.np 2 0))), (5, rL tU h), (22, .e (.c (.kb false)))], [(2, .cells 55 [.d (.v (.string ByteArray.empty)), .kb false, .nil]), (20, .row tU 5 ((octal (sumF 0 h) (6 : Int)) ++ [(32 : Int)]))]⟩))))))))) (by kernel_rfl) ?_
  have hbad : ∀ {E' : Int} {X : Tr (SV × St)} (E : Int), E' = E → (E != 0) = true → Gives ((Tr.ret (Ex.rt, (⟨90, [(2, .e (.c (.np 2 0))), (3, .e (.c (.nil))), (4, rI E)], [(2, .cells 55 [.d (.v (.string ByteArray.empty)), .kb false, .nil])]⟩ : St))).bind (fin C53 fn53.rs)) (.ite (E' != 0) (.ret (SV.tup [.agg [.d (.v (.string ByteArray.empty)), .d (.v (.bool false)), .nil], .c .nil, eI E'], (⟨0, [], []⟩ : St))) X) := fun E hE h0 => by
    subst hE
    exact Gives.of_eq (t' := .need true (.ret (SV.tup [.agg [.d (.v (.string ByteArray.empty)), .d (.v (.bool false)), .nil], .c .nil, eI _], (⟨0, [], []⟩ : St)))) (by kernel_rfl) (.need rfl (.rtt h0 (.refl _)))
  have hus : (u8s ((h.take 156).drop 148) && u8s (octal (sumF 0 h) 6 ++ [32])) = true := by
    rw [u8s_drop (u8s_take hu _) _, u8s_app, octal_u8]; rfl
  refine .lneed (by simp [okB]; omega) (.lnd ⟨by omega, hu⟩ (.lneed rfl (.lneed rfl (.lneed rfl (.lneed hus (.lite (fun hx => ?_) (fun hx => ?_)))))))
  · have hx : sumOk h = false := by rw [← Bool.not_eq_true']; exact hx
    exact hbad 14 (by unfold oneE; rw [if_pos hx]) rfl
  have hx : sumOk h = true := by rw [← Bool.not_eq_false']; exact hx
  refine Gives.goto rfl (Gives.seq (by kernel_rfl) ?_)
  refine Gives.run (t' := .need (okB (124 : Int) (135 : Int) (List.length h)) (.ret (.nx, ⟨90, [(0, rL tU b), (2, .e (.c (.np 2 0))), (5, rL tU h), (6, rI ((numL (0 : Int) (List.drop 124 (List.take 135 h)))).1), (7, rB ((numL (0 : Int) (List.drop 124 (List.take 135 h)))).2)], [(2, .cells 55 [.d (.v (.string ByteArray.empty)), .kb false, .nil]), (20, .row tU 5 ((octal (sumF 0 h) (6 : Int)) ++ [(32 : Int)]))]⟩))) (by kernel_rfl) ?_
  refine .lneed (by simp [okB]; omega) (Gives.goto (σ' := ⟨90, [(0, rL tU b), (2, .e (.c (.np 2 0))), (5, rL tU h), (6, rI (oneN h).1), (7, rB (oneN h).2)], [(2, .cells 55 [.d (.v (.string ByteArray.empty)), .kb false, .nil]), (20, .row tU 5 (octal (sumF 0 h) 6 ++ [32]))]⟩) rfl (Gives.seq (by kernel_rfl) ?_))
  refine Gives.run (t' := .need (okB (512 : Int) (((List.length b) : Nat) : Int) (List.length b)) (.ret (.nx, ⟨90, [(0, rL tU (List.drop 512 (List.take (List.length b) b))), (2, .e (.c (.np 2 0))), (5, rL tU h), (6, rI ((oneN h)).1), (7, rB ((oneN h)).2)], [(2, .cells 55 [.d (.v (.string ByteArray.empty)), .kb false, .nil]), (20, .row tU 5 ((octal (sumF 0 h) (6 : Int)) ++ [(32 : Int)]))]⟩))) (by kernel_rfl) ?_
  have hrl : (b.drop 512).length = b.length - 512 := List.length_drop
  refine .lneed (by simp [okB]; omega) (Gives.goto (σ' := ⟨90, [(0, rL tU (b.drop 512)), (2, .e (.c (.np 2 0))), (5, rL tU h), (6, rI (oneN h).1), (7, rB (oneN h).2)], [(2, .cells 55 [.d (.v (.string ByteArray.empty)), .kb false, .nil]), (20, .row tU 5 (octal (sumF 0 h) 6 ++ [32]))]⟩) (by rw [List.take_length]) ?_)
  have hur := u8s_drop h1 512
  generalize b.drop 512 = r at hrl hur ⊢
  have hn : (oneN h).2 = true → 0 ≤ (oneN h).1 ∧ (oneN h).1 ≤ 524295 := numL_le _ 0 (by omega)
  refine Gives.seq (by kernel_rfl) ?_
  refine Gives.run (t' := .ite (!((oneN h)).2) (.ret (.rt, ⟨90, [(2, .e (.c (.np 2 0))), (3, .e (.c (.nil))), (4, rI (4 : Int))], [(2, .cells 55 [.d (.v (.string (ByteArray.mk (List.toArray ([] : List UInt8))))), .kb false, .nil])]⟩)) (.need (decide (((0 : Int) ≤ ((oneN h)).1) ∧ (((oneN h)).1 ≤ (1000000000000000 : Int)))) (.need (decide (((-(9223372036854775808 : Int) : Int) ≤ ((blocksF ((oneN h)).1) * (512 : Int) : Int)) ∧ (((blocksF ((oneN h)).1) * (512 : Int) : Int) ≤ (9223372036854775807 : Int)))) (.ite (decide ((((List.length r) : Nat) : Int) < ((blocksF ((oneN h)).1) * (512 : Int) : Int))) (.ret (.rt, ⟨90, [(2, .e (.c (.np 2 0))), (3, .e (.c (.nil))), (4, rI (4 : Int))], [(2, .cells 55 [.d (.v (.string (ByteArray.mk (List.toArray ([] : List UInt8))))), .kb false, .nil])]⟩)) (.ret (.nx, ⟨90, [(0, rL tU r), (2, .e (.c (.np 2 0))), (5, rL tU h), (6, rI ((oneN h)).1), (41, .e (.c (.kb false)))], [(2, .cells 55 [.d (.v (.string ByteArray.empty)), .kb false, .nil]), (20, .row tU 5 ((octal (sumF 0 h) (6 : Int)) ++ [(32 : Int)]))]⟩)))))) (by kernel_rfl) ?_
  refine .lite (fun hx1 => ?_) (fun hx1 => ?_)
  · have hx1 : (oneN h).2 = false := by rw [← Bool.not_eq_true']; exact hx1
    exact hbad 4 (by unfold oneE; rw [if_neg (by rw [hx]; simp), if_pos (.inl hx1)]) rfl
  have hx1 : (oneN h).2 = true := by rw [← Bool.not_eq_false']; exact hx1
  have hn := hn hx1
  have hb := blocksF_le hn.1
  refine .lnd (by omega) (.lnd (by omega) (.lif (fun hx2 => ?_) (fun hx2 => ?_)))
  · exact hbad 4 (by unfold oneE; rw [if_neg (by rw [hx]; simp), if_pos (.inr hx2)]) rfl
  have hE : oneE h r = if tMay [oneFl h r] ≠ 0 ∨ ¬ headF (oneFl h r) = h ∨ zeroF ((r.take (blocksF (oneN h).1 * 512).toNat).drop (oneN h).1.toNat) = false then 4 else 0 := by
    unfold oneE; rw [if_neg (by rw [hx]; simp), if_neg (by rw [not_or]; exact ⟨by rw [hx1]; simp, hx2⟩)]
  refine Gives.goto rfl (Gives.seq (by kernel_rfl) ?_)
  refine Gives.run (t' := .need (okB (0 : Int) (100 : Int) (List.length h)) (.need (decide (([(0 : Int)] = [(0 : Int)]) ∧ ((List.length (List.drop 0 (List.take 100 h))) ≤ 1000000))) (.ret (.nx, ⟨90, [(0, rL tU r), (2, .e (.c (.np 2 0))), (5, rL tU h), (6, rI ((oneN h)).1), (8, rL tU (cutN (List.drop 0 (List.take 100 h))))], [(2, .cells 55 [.d (.v (.string ByteArray.empty)), .kb false, .nil]), (20, .row tU 5 ((octal (sumF 0 h) (6 : Int)) ++ [(32 : Int)]))]⟩)))) (by kernel_rfl) ?_
  refine .lneed (by simp [okB]; omega) (.lnd ⟨rfl, by rw [List.length_drop, List.length_take]; omega⟩ ?_)
  refine Gives.goto (σ' := ⟨90, [(0, rL tU r), (2, .e (.c (.np 2 0))), (5, rL tU h), (6, rI (oneN h).1), (8, rL tU (cutN (h.take 100)))], [(2, .cells 55 [.d (.v (.string ByteArray.empty)), .kb false, .nil]), (20, .row tU 5 (octal (sumF 0 h) 6 ++ [32]))]⟩) (by rw [List.drop_zero]) (Gives.seq (by kernel_rfl) ?_)
  refine Gives.run (t' := .need true (.need (inR (156 : Int) (List.length h)) (.need (okB (0 : Int) ((oneN h)).1 (List.length r)) (.need (decide ((List.length (List.drop 0 (List.take (Int.toNat ((oneN h)).1) r))) ≤ 140737488355328)) (.ret (.nx, ⟨90, [(0, rL tU r), (2, .e (.c (.np 2 0))), (5, rL tU h), (6, rI ((oneN h)).1), (11, .e (.c (.np 11 0)))], [(2, .cells 55 [.d (.v (.string ByteArray.empty)), .kb false, .nil]), (11, .cells 55 [.d (.v (.string (txt (cutN (List.take 100 h))))), .d (.v (.bool ((List.getD h 156 (0 : Int)) == (53 : Int)))), .d (.sl tU (List.drop 0 (List.take (Int.toNat ((oneN h)).1) r)))]), (20, .row tU 5 ((octal (sumF 0 h) (6 : Int)) ++ [(32 : Int)]))]⟩)))))) (by kernel_rfl) ?_
  refine .lneed rfl (.lneed (inR_of (by omega) (by omega)) (.lneed (by simp [okB]; omega) (.lnd (by rw [List.length_drop, List.length_take]; omega) ?_)))
  refine Gives.goto (σ' := ⟨90, [(0, rL tU r), (2, .e (.c (.np 2 0))), (5, rL tU h), (6, rI (oneN h).1), (11, .e (.c (.np 11 0)))], [(2, .cells 55 [.d (.v (.string ByteArray.empty)), .kb false, .nil]), (11, .cells 55 [.d (.v (.string (oneFl h r).1)), .d (.v (.bool (oneFl h r).2.1)), .d (.sl tU (oneFl h r).2.2)]), (20, .row tU 5 (octal (sumF 0 h) 6 ++ [32]))]⟩) (by rw [List.drop_zero]; rfl) ?_
  generalize hf : oneFl h r = f at hE ⊢
  obtain ⟨fp, fd, fc⟩ := f
  refine Gives.seq (by kernel_rfl) ?_
  refine Gives.run (t' := .need true (.ite ((tMay [(fp, (fd, fc))]) != (0 : Int)) (.ret (.rt, ⟨90, [(2, .e (.c (.np 2 0))), (3, .e (.c (.nil))), (4, rI (4 : Int))], [(2, .cells 55 [.d (.v (.string (ByteArray.mk (List.toArray ([] : List UInt8))))), .kb false, .nil])]⟩)) (.need true (.need (decide ((ByteArray.size fp) ≤ 99)) (.need ((u8s (headF (fp, (fd, fc)))) && (u8s h)) (.ite (!((headF (fp, (fd, fc))) == h)) (.ret (.rt, ⟨90, [(2, .e (.c (.np 2 0))), (3, .e (.c (.nil))), (4, rI (4 : Int))], [(2, .cells 55 [.d (.v (.string (ByteArray.mk (List.toArray ([] : List UInt8))))), .kb false, .nil])]⟩)) (.need (decide (((0 : Int) ≤ ((oneN h)).1) ∧ (((oneN h)).1 ≤ (1000000000000000 : Int)))) (.need (decide (((-(9223372036854775808 : Int) : Int) ≤ ((blocksF ((oneN h)).1) * (512 : Int) : Int)) ∧ (((blocksF ((oneN h)).1) * (512 : Int) : Int) ≤ (9223372036854775807 : Int)))) (.need (okB ((oneN h)).1 ((blocksF ((oneN h)).1) * (512 : Int) : Int) (List.length r)) (.ite (!(zeroF (List.drop (Int.toNat ((oneN h)).1) (List.take (Int.toNat ((blocksF ((oneN h)).1) * (512 : Int) : Int)) r)))) (.ret (.rt, ⟨90, [(2, .e (.c (.np 2 0))), (3, .e (.c (.nil))), (4, rI (4 : Int))], [(2, .cells 55 [.d (.v (.string (ByteArray.mk (List.toArray ([] : List UInt8))))), .kb false, .nil])]⟩)) (.ret (.nx, ⟨90, [(0, rL tU r), (2, .e (.c (.np 2 0))), (6, rI ((oneN h)).1), (11, .e (.c (.np 11 0))), (82, .e (.c (.kb false)))], [(2, .cells 55 [.d (.v (.string ByteArray.empty)), .kb false, .nil]), (11, .cells 55 [.d (.v (.string fp)), .d (.v (.bool fd)), .d (.sl tU fc)]), (20, .row tU 5 ((octal (sumF 0 h) (6 : Int)) ++ [(32 : Int)]))]⟩)))))))))))) (by kernel_rfl) ?_
  have hE4 : (tMay [(fp, fd, fc)] ≠ 0 ∨ ¬ headF (fp, fd, fc) = h ∨ zeroF ((r.take (blocksF (oneN h).1 * 512).toNat).drop (oneN h).1.toNat) = false) → oneE h r = 4 := fun hc => by rw [hE, if_pos hc]
  refine .lneed rfl (.lite (fun hx3 => ?_) (fun hx3 => ?_))
  · exact hbad 4 (hE4 (.inl (by simpa using hx3))) rfl
  have hx3 : tMay [(fp, fd, fc)] = 0 := by simpa using hx3
  have hsz : fp.size ≤ 99 := by
    have := (tMay_zero hx3).2.2.2.2
    have := of_decide_eq_true (List.all_eq_true.1 this _ (List.mem_singleton.2 rfl))
    exact this.1
  refine .lneed rfl (.lnd hsz (.lneed (by rw [headF_u8, hu]; rfl) (.lite (fun hx4 => ?_) (fun hx4 => ?_))))
  · exact hbad 4 (hE4 (.inr (.inl (by simpa using hx4)))) rfl
  have hx4 : headF (fp, fd, fc) = h := by simpa using hx4
  refine .lnd (by omega) (.lnd (by omega) (.lneed (by simp [okB]; omega) (.lite (fun hx5 => ?_) (fun hx5 => ?_))))
  · exact hbad 4 (hE4 (.inr (.inr (by rw [← Bool.not_eq_true']; exact hx5)))) rfl
  have hx5 : zeroF ((r.take (blocksF (oneN h).1 * 512).toNat).drop (oneN h).1.toNat) = true := by rw [← Bool.not_eq_false']; exact hx5
  have hE0 : oneE h r = 0 := by rw [hE, if_neg (by rw [not_or, not_or]; exact ⟨by simpa using hx3, by simpa using hx4, by rw [hx5]; simp⟩)]
  rw [hE0]
  refine Gives.goto rfl (Gives.seq (by kernel_rfl) ?_)
  refine Gives.run (t' := .need true (.need (decide (((0 : Int) ≤ ((oneN h)).1) ∧ (((oneN h)).1 ≤ (1000000000000000 : Int)))) (.need (decide (((-(9223372036854775808 : Int) : Int) ≤ ((blocksF ((oneN h)).1) * (512 : Int) : Int)) ∧ (((blocksF ((oneN h)).1) * (512 : Int) : Int) ≤ (9223372036854775807 : Int)))) (.need (okB ((blocksF ((oneN h)).1) * (512 : Int) : Int) (((List.length r) : Nat) : Int) (List.length r)) (.ret (.nx, ⟨90, [(2, .e (.c (.np 2 0))), (3, rL tU (List.drop (Int.toNat ((blocksF ((oneN h)).1) * (512 : Int) : Int)) (List.take (List.length r) r))), (4, rI (0 : Int))], [(2, .cells 55 [.d (.v (.string fp)), .d (.v (.bool fd)), .d (.sl tU fc)]), (11, .cells 55 [.d (.v (.string fp)), .d (.v (.bool fd)), .d (.sl tU fc)]), (20, .row tU 5 ((octal (sumF 0 h) (6 : Int)) ++ [(32 : Int)]))]⟩)))))) (by kernel_rfl) ?_
  refine .lneed rfl (.lnd (by omega) (.lnd (by omega) (.lneed (by simp [okB]; omega) ?_)))
  rw [List.take_length]
  exact Gives.of_eq (t' := .need true (.ret (SV.tup [eF (fp, fd, fc), eL tU (r.drop (blocksF (oneN h).1 * 512).toNat), eI 0], (⟨0, [], []⟩ : St)))) (by kernel_rfl) (.need rfl (.rff rfl (.refl _)))
theorem oneF_ok : CtrOk Tryd.prog 14 oneFCtr := by
  refine CtrOk.lessC oneT_ok ?_
  rintro ⟨(b : List Int), ⟨⟩⟩
  show LessT _ (.need _ (.ret (SV.tup [eF (oneF' (b.take 512) (b.drop 512)), eL tU (oneR (b.take 512) (b.drop 512)), eI (oneE (b.take 512) (b.drop 512))], (⟨0, [], []⟩ : St))))
  refine .rneed fun h => .need h (.ite (fun hz => ?_) (fun hz => ?_))
  · have hz : ¬ oneE (b.take 512) (b.drop 512) = 0 := by simpa using hz
    rw [show oneF' (b.take 512) (b.drop 512) = (ByteArray.empty, false, []) by unfold oneF'; rw [if_neg hz], show oneR (b.take 512) (b.drop 512) = [] by unfold oneR; rw [if_neg hz]]
    refine .ret ⟨fun M β v hv => ?_, rfl, rfl, fun _ _ h => h⟩
    obtain ⟨vs, e, hs⟩ := hv
    refine ⟨vs, e, ?_⟩
    generalize vs.toList = us at hs ⊢
    cases hs with
    | cons h1 h2 =>
      cases h2 with
      | cons h3 h4 =>
        refine .cons ?_ (.cons (EVR.nilL (β := β) (t := tU) h3) h4)
        obtain ⟨ws, e2, hw⟩ := h1
        refine ⟨ws, e2, ?_⟩
        generalize ws.toList = xs at hw ⊢
        cases hw with
        | cons g1 g2 g3 =>
          cases g3 with
          | cons g4 g5 g6 =>
            cases g6 with
            | cons g7 g8 g9 => cases g9; exact .cons g1 g2 (.cons g4 g5 (.cons (EVR.nilL (β := β) (t := tU) g7) g8 .nil))
  · have hz : oneE (b.take 512) (b.drop 512) = 0 := by simpa using hz
    rw [show oneF' (b.take 512) (b.drop 512) = oneFl (b.take 512) (b.drop 512) by unfold oneF'; rw [if_pos hz], show oneR (b.take 512) (b.drop 512) = (b.drop 512).drop (blocksF (oneN (b.take 512)).1 * 512).toNat by unfold oneR; rw [if_pos hz], hz]
    exact .ret (.refl _)
end Go.Proofs.YtdngaaploooceaaDoor.Sy

/- Contracts: an archive is read. -/
set_option maxRecDepth 100000
namespace Go.Proofs.YtdngaaploooceaaDoor.Sy
open Go.RowKit Kit Go.Proofs
noncomputable def fn29 := mkFn Tryd.f6
noncomputable def C29 : Cx := ⟨T, FL, [(13, zeroCtr), (14, oneFCtr)], [], [FA]⟩
theorem C29_ok : CxOk Tryd.prog C29 := ⟨T_ok, FL_ok, .cons zero_ok (.cons oneF_ok (.nil _)), .nil _⟩
def nr29 : List NR := [⟨5, tFile, 55⟩]
/-- the files of bytes: why there are none, they, what is left -/
def rdL : Nat → List Int → Int × List File × List Int
  | 0, _ => (4, [], [])
  | n + 1, b =>
    if b.length < 512 then (4, [], [])
    else if zeroF (b.take 512) then (0, [], b)
    else if oneE (b.take 512) (b.drop 512) ≠ 0 then (oneE (b.take 512) (b.drop 512), [], [])
    else ((rdL n (oneR (b.take 512) (b.drop 512))).1, oneF' (b.take 512) (b.drop 512) :: (rdL n (oneR (b.take 512) (b.drop 512))).2.1, (rdL n (oneR (b.take 512) (b.drop 512))).2.2)
theorem oneR_len (h r : List Int) : (oneR h r).length ≤ r.length := by
  unfold oneR
  split
  · rw [List.length_drop]; omega
  · exact Nat.zero_le _
theorem oneR_u8 {h r : List Int} (hr : u8s r = true) : u8s (oneR h r) = true := by
  unfold oneR
  split
  · exact u8s_drop hr _
  · rfl
theorem rdL_fuel : ∀ (n : Nat) (b : List Int), b.length ≤ n → rdL n b = rdL b.length b := by
  intro n
  induction n using Nat.strongRecOn with
  | ind n ih =>
    intro b hb
    cases n with
    | zero => rw [show b.length = 0 by omega]
    | succ n =>
      by_cases h0 : b.length < 512
      · have e : ∀ m, rdL m b = (4, [], []) := fun m => by
          cases m with
          | zero => rfl
          | succ m => rw [rdL, if_pos h0]
        rw [e, e]
      · obtain ⟨m, hm⟩ : ∃ m, b.length = m + 1 := ⟨b.length - 1, by omega⟩
        rw [hm, rdL, rdL]
        have hr : (oneR (b.take 512) (b.drop 512)).length ≤ m := by
          have := oneR_len (b.take 512) (b.drop 512)
          rw [List.length_drop] at this; omega
        rw [ih n (by omega) _ (by omega), ih m (by omega) _ hr]
theorem rdL_short {b : List Int} (h : b.length < 512) {m : Nat} : rdL m b = (4, [], []) := by
  cases m with
  | zero => rfl
  | succ m => rw [rdL, if_pos h]
theorem rdL_one {b : List Int} (h : 512 ≤ b.length) : rdL b.length b = if zeroF (b.take 512) then (0, [], b)
    else if oneE (b.take 512) (b.drop 512) ≠ 0 then (oneE (b.take 512) (b.drop 512), [], [])
    else ((rdL (oneR (b.take 512) (b.drop 512)).length (oneR (b.take 512) (b.drop 512))).1, oneF' (b.take 512) (b.drop 512) :: (rdL (oneR (b.take 512) (b.drop 512)).length (oneR (b.take 512) (b.drop 512))).2.1, (rdL (oneR (b.take 512) (b.drop 512)).length (oneR (b.take 512) (b.drop 512))).2.2) := by
  obtain ⟨m, hm⟩ : ∃ m, b.length = m + 1 := ⟨b.length - 1, by omega⟩
  have hr : (oneR (b.take 512) (b.drop 512)).length ≤ m := by
    have := oneR_len (b.take 512) (b.drop 512)
    rw [List.length_drop] at this; omega
  conv => lhs; rw [hm, rdL]
  rw [if_neg (by omega), rdL_fuel m _ hr]
def q29 : Frm := ⟨44, [(0, .dat tB), (4, .dat tI), (5, .row 5)], [(5, .row tFile 55)]⟩
def R29 : q29.V → Tr (Ex × St) := fun (((b : List Int), (w : Int), _), (acc : List File), _) =>
  .need (decide (u8s b = true ∧ acc.length + b.length ≤ 1000000000)) (.ite ((rdL b.length b).1 != 0) (.ret (.rt, ⟨44, [(2, .e (.c .nil)), (3, rI (rdL b.length b).1)], []⟩))
    (.ret (.ex 0, ⟨44, [(0, rL tU (rdL b.length b).2.2), (4, rI w), (5, .e (.c (.row 5)))], [(5, .row tFile 55 (acc ++ (rdL b.length b).2.1))]⟩)))
def lp29 : LP := [(0, sumP q29 R29)]
theorem lp29_ok : LpsOk 0 C29 nr29 lp29 fn29.loops := by
  refine .all (by kernel_rfl) ?_
  simp only [lp29, List.forall_mem_cons, List.not_mem_nil, false_imp_iff, implies_true, and_true]
  refine .pat q29 R29 (fun v => v.1.1.length) ?_
  rintro ⟨⟨(b : List Int), (w : Int), ⟨⟩, ⟨⟩⟩, ⟨(acc : List File), ⟨⟩⟩⟩ ih
  refine Gives.run (t' := .ite (decide ((((List.length b) : Nat) : Int) < (512 : Int))) (.ret (.rt, ⟨44, [(2, .e (.c (.nil))), (3, rI (4 : Int))], []⟩)) (.need (okB (0 : Int) (512 : Int) (List.length b)) (.ite (zeroF (List.drop 0 (List.take 512 b))) (.ret (.ex 0, ⟨44, [(0, rL tU b), (4, rI w), (5, .e (.c (.row 5)))], [(5, .row tFile 55 acc)]⟩)) (.need (decide (((u8s b) = true) ∧ ((512 ≤ (List.length b)) ∧ ((List.length b) ≤ 1000000000)))) (.ite ((oneE (List.take 512 b) (List.drop 512 b)) != (0 : Int)) (.ret (.rt, ⟨44, [(2, .e (.c (.nil))), (3, rI (oneE (List.take 512 b) (List.drop 512 b)))], []⟩)) (.need true (.need true (.need (decide ((((List.length acc) + (List.length [(oneF' (List.take 512 b) (List.drop 512 b))]) : Nat) * (Lay.bytes L55) : Nat) ≤ 140737488355328)) (.ret (.nx, ⟨44, [(0, rL tU (oneR (List.take 512 b) (List.drop 512 b))), (4, rI w), (5, .e (.c (.row 29)))], [(6, .cells 55 [.d (.v (.string ((oneF' (List.take 512 b) (List.drop 512 b))).1)), .d (.v (.bool (((oneF' (List.take 512 b) (List.drop 512 b))).2).1)), .d (.sl tU (((oneF' (List.take 512 b) (List.drop 512 b))).2).2)]), (29, .row tFile 55 (acc ++ [(oneF' (List.take 512 b) (List.drop 512 b))]))]⟩)))))))))) (by kernel_rfl) ?_
  refine .rnd fun ⟨h1, h2⟩ => ?_
  refine .lif (fun hk => ?_) (fun hk => ?_)
  · rw [rdL_short (by omega)]; exact .rtt rfl (.refl _)
  have hk : 512 ≤ b.length := by omega
  have hr := rdL_one hk
  rw [List.drop_zero]
  refine .lneed (by simp [okB]; omega) (.lite (fun hz => ?_) (fun hz => ?_))
  · rw [if_pos hz] at hr
    rw [hr]
    simp only [List.append_nil]
    exact .rff rfl (.refl _)
  rw [if_neg (by rw [hz]; exact Bool.false_ne_true)] at hr
  refine .lnd ⟨h1, hk, by omega⟩ (.lite (fun he => ?_) (fun he => ?_))
  · rw [if_pos (by simpa using he)] at hr
    rw [hr]; exact .rtt he (.refl _)
  have he0 : oneE (b.take 512) (b.drop 512) = 0 := by simpa using he
  rw [if_neg (by simpa using he)] at hr
  have hl := oneR_len (b.take 512) (b.drop 512)
  rw [List.length_drop] at hl
  have hu := oneR_u8 (h := b.take 512) (u8s_drop h1 512)
  refine .lneed rfl (.lneed rfl (.lnd (by show (acc.length + 1) * 48 ≤ _; omega) ?_))
  rw [hr]
  generalize oneR (b.take 512) (b.drop 512) = r at hl hu ⊢
  generalize oneF' (b.take 512) (b.drop 512) = f
  refine Gives.next (σ' := q29.st ((r, w, (), ()), (acc ++ [f], ()))) (by kernel_rfl) ((ih ((r, w, (), ()), (acc ++ [f], ())) (by show r.length < b.length; omega)).trans ?_)
  refine .nd ⟨hu, by rw [List.length_append]; simp; omega⟩ ?_
  rw [List.append_assoc]
  exact .refl _
/-- the files of an archive -/
def readT (b : List Int) : Int × List File :=
  if (rdL b.length b).1 ≠ 0 then ((rdL b.length b).1, [])
  else if (rdL b.length b).2.2.length ≠ 1024 ∨ zeroF (rdL b.length b).2.2 = false ∨ 65536 < b.length then (4, []) else (0, (rdL b.length b).2.1)
def tReadCtr : Ctr := ctr (one (aVal tB)) fun a => .need (decide (u8s a.1 = true ∧ a.1.length ≤ 1000000000)) (.ret (.tup [eL tFile (readT a.1).2, eI (readT a.1).1], []))
theorem tRead_ok : CtrOk Tryd.prog 6 tReadCtr := by
  refine CtrOk.lessC (F := fun a => .need (decide (u8s a.1 = true ∧ a.1.length ≤ 1000000000)) (.ite ((readT a.1).1 != 0) (.ret (.tup [.c .nil, eI (readT a.1).1], [])) (.ret (.tup [eL tFile (readT a.1).2, eI 0], [])))) ?_ ?_
  · refine .mk C29_ok mixed (q := fn29) (.of Tryd.func6 (by kernel_rfl)) lp29_ok (by decide) ?_
    rintro ⟨(b : List Int), ⟨⟩⟩ -
    refine Gives.of_eq (t' := .need (decide (((u8s b) = true) ∧ (((List.length ([] : List (Prod (Ty.El Ty.str) (Ty.El (Ty.pair Ty.bool tB))))) + (List.length b) : Nat) ≤ 1000000000))) (.ite (((rdL (List.length b) b)).1 != (0 : Int)) (.ret (.tup [.c (.nil), .c (.d (.v (.int .i64 ((rdL (List.length b) b)).1)))], ⟨0, [], []⟩)) (.ite ((((List.length (((rdL (List.length b) b)).2).2) : Nat) : Int) != (1024 : Int)) (.ret (.tup [.c (.nil), .c (.d (.v (.int .i64 (4 : Int))))], ⟨0, [], []⟩)) (.ite (!(zeroF (((rdL (List.length b) b)).2).2)) (.ret (.tup [.c (.nil), .c (.d (.v (.int .i64 (4 : Int))))], ⟨0, [], []⟩)) (.ite (decide ((65536 : Int) < (((List.length b) : Nat) : Int))) (.ret (.tup [.c (.nil), .c (.d (.v (.int .i64 (4 : Int))))], ⟨0, [], []⟩)) (.ret (.tup [.c (.d (.sl tFile (([] : List (Prod (Ty.El Ty.str) (Ty.El (Ty.pair Ty.bool tB)))) ++ (((rdL (List.length b) b)).2).1))), .c (.d (.v (.int .i64 (0 : Int))))], ⟨0, [], []⟩))))))) (by kernel_rfl) ?_
    show Gives _ (.need _ (.ite ((readT b).1 != 0) (.ret (SV.tup [.c .nil, eI (readT b).1], (⟨0, [], []⟩ : St))) (.ret (SV.tup [eL tFile (readT b).2, eI 0], (⟨0, [], []⟩ : St)))))
    refine .rnd fun ⟨h1, h2⟩ => ?_
    have h1 : u8s b = true := h1
    have h2 : b.length ≤ 1000000000 := h2
    unfold readT
    refine .nd ⟨h1, by simpa using h2⟩ (.ite (fun hz => ?_) (fun hz => ?_))
    · rw [if_pos (by simpa using hz)]; exact .rtt hz (.refl _)
    rw [if_neg (by simpa using hz)]
    refine .ite (fun hx => ?_) (fun hx => ?_)
    · rw [if_pos (.inl (by have := bne_iff_ne.1 hx; omega))]; exact .rtt rfl (.refl _)
    refine .ite (fun hy => ?_) (fun hy => ?_)
    · rw [if_pos (.inr (.inl (by rw [← Bool.not_eq_true']; exact hy)))]; exact .rtt rfl (.refl _)
    refine .if_ (fun hw => ?_) (fun hw => ?_)
    · rw [if_pos (.inr (.inr (by omega)))]; exact .rtt rfl (.refl _)
    rw [if_neg (by
      rw [not_or, not_or]
      exact ⟨by have := bne_eq_false_iff_eq.1 hx; omega, by rw [show zeroF (rdL b.length b).2.2 = true by rw [← Bool.not_eq_false']; exact hy]; simp, by omega⟩), List.nil_append]
    exact .rff rfl (.refl _)
  · rintro ⟨(b : List Int), ⟨⟩⟩
    show LessT _ (.need _ (.ret (SV.tup [eL tFile (readT b).2, eI (readT b).1], (⟨0, [], []⟩ : St))))
    refine .rneed fun h => .need h (.ite (fun hz => ?_) (fun hz => ?_))
    · have hz : ¬ (readT b).1 = 0 := by simpa using hz
      have : (readT b).2 = [] := by
        unfold readT at hz ⊢
        split
        · rfl
        · split
          · rfl
          · rename_i h1 h2; rw [if_neg h1, if_neg h2] at hz; exact absurd rfl hz
      rw [this]
      exact .ret (Less.tup1 fun M β v hv => EVR.nilL (β := β) (t := tFile) hv)
    · have hz : (readT b).1 = 0 := by simpa using hz
      rw [hz]; exact .ret (.refl _)
end Go.Proofs.YtdngaaploooceaaDoor.Sy

/- Contracts: the beginning of a text; a trace of bytes. -/
set_option maxRecDepth 100000
namespace Go.Proofs.YtdngaaploooceaaDoor.Sy
open Go.RowKit Kit Go.Proofs
/-! ### strings.CutPrefix -/
def cutP (s p : ByteArray) : ByteArray × Bool := if p.size ≤ s.size ∧ s.extract 0 p.size = p then (s.extract p.size s.size, true) else (s, false)
noncomputable def fn89 := mkFn Tryd.f72
theorem A89_ok : CtrOk Tryd.prog 72 (auto fn89 C0 0 []) := auto_ok C0_ok mixed (.of Tryd.func72 (by kernel_rfl))
noncomputable def fn73 := mkFn Tryd.f56
noncomputable def C73 : Cx := ⟨T, FL, [(72, auto fn89 C0 0 [])], [], []⟩
theorem C73_ok : CxOk Tryd.prog C73 := ⟨T_ok, FL_ok, .cons A89_ok (.nil _), .nil _⟩
def cutPCtr : Ctr := ctr (two aS aS) fun a => .need (decide (a.1.size ≤ 1000000000 ∧ a.2.1.size ≤ 1000000000)) (ans2 (eS (cutP a.1 a.2.1).1) (eB (cutP a.1 a.2.1).2))
theorem cutP0_ok : CtrOk Tryd.prog 56 cutPCtr := by
  refine .mk C73_ok mixed (q := fn73) (.of Tryd.func56 (by kernel_rfl)) (N := 0) (nr := []) .none (by decide) ?_
  rintro ⟨(s : ByteArray), (p : ByteArray), ⟨⟩⟩ -
  show Gives _ (.need _ (.ret (SV.tup [eS (cutP s p).1, eB (cutP s p).2], (⟨0, [], []⟩ : St))))
  refine .rnd fun ⟨h1, h2⟩ => ?_
  have h1 : s.size ≤ 1000000000 := h1
  have h2 : p.size ≤ 1000000000 := h2
  refine Gives.of_eq (t' := .ite (decide ((((ByteArray.size p) : Nat) : Int) ≤ (((ByteArray.size s) : Nat) : Int))) (.need (okB (0 : Int) (((ByteArray.size p) : Nat) : Int) (ByteArray.size s)) (.ite (!(decide ((ByteArray.extract s 0 (ByteArray.size p)) = p))) (.ret (.tup [.c (.d (.v (.string s))), .c (.d (.v (.bool false)))], ⟨0, [], []⟩)) (.need (okB (((ByteArray.size p) : Nat) : Int) (((ByteArray.size s) : Nat) : Int) (ByteArray.size s)) (.ret (.tup [.c (.d (.v (.string (ByteArray.extract s (ByteArray.size p) (ByteArray.size s))))), .c (.d (.v (.bool true)))], ⟨0, [], []⟩))))) (.ite true (.ret (.tup [.c (.d (.v (.string s))), .c (.d (.v (.bool false)))], ⟨0, [], []⟩)) (.need (okB (((ByteArray.size p) : Nat) : Int) (((ByteArray.size s) : Nat) : Int) (ByteArray.size s)) (.ret (.tup [.c (.d (.v (.string (ByteArray.extract s (ByteArray.size p) (ByteArray.size s))))), .c (.d (.v (.bool true)))], ⟨0, [], []⟩))))) (by kernel_rfl) ?_
  refine .if_ (fun h => ?_) (fun h => ?_)
  · refine .need (by simp [okB]; omega) (.ite (fun h' => ?_) (fun h' => ?_))
    · rw [show cutP s p = (s, false) from if_neg (fun hc => by simp [hc.2] at h')]; exact .refl _
    · rw [show cutP s p = (s.extract p.size s.size, true) from if_pos ⟨by omega, by simpa using h'⟩]
      exact .need (by simp [okB]; omega) (.refl _)
  · refine .tt rfl ?_
    rw [show cutP s p = (s, false) from if_neg (fun hc => by omega)]; exact .refl _
noncomputable def fn55 := mkFn Tryd.f37
noncomputable def C55 : Cx := ⟨T, FL, [(56, cutPCtr)], [], []⟩
theorem C55_ok : CxOk Tryd.prog C55 := ⟨T_ok, FL_ok, .cons cutP0_ok (.nil _), .nil _⟩
theorem cutP_ok : CtrOk Tryd.prog 37 cutPCtr := by
  refine .mk C55_ok mixed (q := fn55) (.of Tryd.func37 (by kernel_rfl)) (N := 0) (nr := []) .none (by decide) ?_
  rintro ⟨(s : ByteArray), (p : ByteArray), ⟨⟩⟩ -
  show Gives _ (.need _ (.ret (SV.tup [eS (cutP s p).1, eB (cutP s p).2], (⟨0, [], []⟩ : St))))
  refine .rnd fun h => ?_
  refine Gives.of_eq (t' := .need (decide (((ByteArray.size s) ≤ 1000000000) ∧ ((ByteArray.size p) ≤ 1000000000))) (.ret (.tup [.c (.d (.v (.string ((cutP s p)).1))), .c (.d (.v (.bool ((cutP s p)).2)))], ⟨0, [], []⟩))) (by kernel_rfl) ?_
  exact .nd h (.refl _)

/-! ### image.untrace -/
def evF (b : List Int) : Bool × Int := (b.getD 0 0 == 1, IntKind.wrap .u16 (num2 (b.getD 1 0) (b.getD 2 0)))
def unL : Nat → List Int → List (Bool × Int) × List Int
  | 0, b => ([], b)
  | n + 1, b => if 6 ≤ b.length then (evF b :: (unL n (b.drop 3)).1, (unL n (b.drop 3)).2) else ([], b)
def untraceF (b : List Int) : Trc :=
  if (unL b.length b).2.length = 3 then ((unL b.length b).1, IntKind.wrap .i64 ((unL b.length b).2.getD 0 0), IntKind.wrap .u16 (num2 ((unL b.length b).2.getD 1 0) ((unL b.length b).2.getD 2 0))) else ((unL b.length b).1, 0, 0)
noncomputable def fn56 := mkFn Tryd.f38
noncomputable def C56 : Cx := ⟨T, FL, [(57, numCtr)], [], [FA]⟩
theorem C56_ok : CxOk Tryd.prog C56 := ⟨T_ok, FL_ok, .cons num_ok (.nil _), .nil _⟩
abbrev CB56 : Nat := 1000003000
def nr56 : List NR := [⟨CB56, tEv, 42⟩]
def q56 : Frm := ⟨37, [(0, .dat tB), (2, .np 2 0), (3, .np 3 0)], [(2, .cells 45 [.nil, .dat tI, .dat (.int .u16)]), (3, .cells 45 [.row CB56, .dat tI, .dat (.int .u16)]), (CB56, .row tEv 42)]⟩
def R56 : q56.V → Tr (Ex × St) := fun (((b : List Int), _, _, _), ((_, (e0 : Int), (c0 : Int), _), (_, (e : Int), (c : Int), _), (acc : List (Bool × Int)), _)) =>
  .need (decide (acc.length + b.length ≤ 1000000000)) (.ret (.ex 0, q56.st (((unL b.length b).2, (), (), ()), (((), e0, c0, ()), ((), e, c, ()), acc ++ (unL b.length b).1, ()))))
def lp56 : LP := [(0, sumP q56 R56)]
theorem unL_fuel : ∀ (n : Nat) (b : List Int), b.length ≤ n → unL n b = unL b.length b := by
  intro n
  induction n using Nat.strongRecOn with
  | ind n ih =>
    intro b hb
    by_cases h0 : 6 ≤ b.length
    · obtain ⟨m, hm⟩ : ∃ m, b.length = m + 1 := ⟨b.length - 1, by omega⟩
      obtain ⟨k, rfl⟩ : ∃ k, n = k + 1 := ⟨n - 1, by omega⟩
      have hl : (b.drop 3).length = b.length - 3 := List.length_drop
      conv => rhs; rw [hm]
      rw [unL, unL, if_pos h0, if_pos h0, ih k (by omega) _ (by omega), ih m (by omega) _ (by omega)]
    · have e : ∀ m, unL m b = ([], b) := fun m => by
        cases m with
        | zero => rfl
        | succ m => rw [unL, if_neg h0]
      rw [e, e]
theorem unL_more {b : List Int} (h : 6 ≤ b.length) : unL b.length b = (evF b :: (unL (b.drop 3).length (b.drop 3)).1, (unL (b.drop 3).length (b.drop 3)).2) := by
  obtain ⟨m, hm⟩ : ∃ m, b.length = m + 1 := ⟨b.length - 1, by omega⟩
  have hl : (b.drop 3).length = b.length - 3 := List.length_drop
  conv => lhs; rw [hm]
  rw [unL, if_pos h, unL_fuel m _ (by omega)]
theorem unL_less {b : List Int} (h : ¬ 6 ≤ b.length) {m : Nat} : unL m b = ([], b) := by
  cases m with
  | zero => rfl
  | succ m => rw [unL, if_neg h]
theorem getD_drop (l : List Int) (k i : Nat) : (l.drop k).getD i 0 = l.getD (k + i) 0 := by
  simp only [List.getD_eq_getElem?_getD, List.getElem?_drop]
theorem lp56_ok : LpsOk 0 C56 nr56 lp56 fn56.loops := by
  refine .all (by kernel_rfl) ?_
  simp only [lp56, List.forall_mem_cons, List.not_mem_nil, false_imp_iff, implies_true, and_true]
  refine .pat q56 R56 (fun v => v.1.1.length) ?_
  rintro ⟨⟨(b : List Int), ⟨⟩, ⟨⟩, ⟨⟩⟩, ⟨⟨⟩, (e0 : Int), (c0 : Int), ⟨⟩⟩, ⟨⟨⟩, (e : Int), (c : Int), ⟨⟩⟩, (acc : List (Bool × Int)), ⟨⟩⟩ ih
  refine Gives.run (t' := .ite (decide ((6 : Int) ≤ (((List.length b) : Nat) : Int))) (.need (inR (0 : Int) (List.length b)) (.need (okB (1 : Int) (((List.length b) : Nat) : Int) (List.length b)) (.need (decide (2 ≤ (List.length (List.drop 1 (List.take (List.length b) b))))) (.need true (.need (decide ((((List.length acc) + (List.length [(((List.getD b 0 (0 : Int)) == (1 : Int)), (IntKind.wrap IntKind.u16 (num2 (List.getD (List.drop 1 (List.take (List.length b) b)) 0 (0 : Int)) (List.getD (List.drop 1 (List.take (List.length b) b)) 1 (0 : Int)))))]) : Nat) * (Lay.bytes L42) : Nat) ≤ 140737488355328)) (.need (okB (3 : Int) (((List.length b) : Nat) : Int) (List.length b)) (.ret (.nx, ⟨37, [(0, rL tU (List.drop 3 (List.take (List.length b) b))), (2, .e (.c (.np 2 0))), (3, .e (.c (.np 3 0)))], [(2, .cells 45 [.nil, .d (.v (.int .i64 e0)), .d (.v (.int .u16 c0))]), (3, .cells 45 [.row 19, .d (.v (.int .i64 e)), .d (.v (.int .u16 c))]), (19, .row tEv 42 (acc ++ [(((List.getD b 0 (0 : Int)) == (1 : Int)), (IntKind.wrap IntKind.u16 (num2 (List.getD (List.drop 1 (List.take (List.length b) b)) 0 (0 : Int)) (List.getD (List.drop 1 (List.take (List.length b) b)) 1 (0 : Int)))))]))]⟩)))))))) (.ret (.ex 0, ⟨37, [(0, rL tU b), (2, .e (.c (.np 2 0))), (3, .e (.c (.np 3 0)))], [(2, .cells 45 [.nil, .d (.v (.int .i64 e0)), .d (.v (.int .u16 c0))]), (3, .cells 45 [.row 1000003000, .d (.v (.int .i64 e)), .d (.v (.int .u16 c))]), (1000003000, .row tEv 42 acc)]⟩))) (by kernel_rfl) ?_
  refine .rnd fun h1 => ?_
  refine .lif (fun hk => ?_) (fun hk => ?_)
  · have hk : 6 ≤ b.length := by omega
    have hl : (b.drop 3).length = b.length - 3 := List.length_drop
    rw [unL_more hk]
    simp only [List.take_length, getD_drop]
    refine .lneed (inR_of (by omega) (by omega)) (.lneed (by simp [okB]; omega) (.lnd (by rw [List.length_drop]; omega) (.lneed rfl (.lnd (by show (acc.length + 1) * 4 ≤ _; omega) (.lneed (by simp [okB]; omega) ?_)))))
    refine Gives.next (σ' := q56.st ((b.drop 3, (), (), ()), (((), e0, c0, ()), ((), e, c, ()), acc ++ [evF b], ()))) (by kernel_rfl) ((ih ((b.drop 3, (), (), ()), (((), e0, c0, ()), ((), e, c, ()), acc ++ [evF b], ())) (by show (b.drop 3).length < b.length; omega)).trans ?_)
    refine .nd (by rw [List.length_append]; simp; omega) ?_
    rw [List.append_assoc]
    exact .refl _
  · rw [unL_less (by omega), List.append_nil]
    exact .refl _
def untrCtr : Ctr := ctr (one (aVal tB)) fun a => .need (decide (a.1.length ≤ 1000000000)) (ans (.e (.agg ((split tTr (untraceF a.1)).map .d))))
theorem untr_ok : CtrOk Tryd.prog 38 untrCtr := by
  refine .mk C56_ok mixed (q := fn56) (.of Tryd.func38 (by kernel_rfl)) lp56_ok (by decide) ?_
  rintro ⟨(b : List Int), ⟨⟩⟩ -
  refine Gives.of_eq (t' := .need (decide (((List.length ([] : List (Prod (Ty.El Ty.bool) (Ty.El (Ty.int IntKind.u16))))) + (List.length b) : Nat) ≤ 1000000000)) (.ite ((((List.length ((unL (List.length b) b)).2) : Nat) : Int) == (3 : Int)) (.need (inR (0 : Int) (List.length ((unL (List.length b) b)).2)) (.need (okB (1 : Int) (((List.length ((unL (List.length b) b)).2) : Nat) : Int) (List.length ((unL (List.length b) b)).2)) (.need (decide (2 ≤ (List.length (List.drop 1 (List.take (List.length ((unL (List.length b) b)).2) ((unL (List.length b) b)).2))))) (.need true (.need true (.ret (.e (.agg [.d (.sl tEv (([] : List (Prod Bool Int)) ++ ((unL (List.length b) b)).1)), .d (.v (.int .i64 (IntKind.wrap IntKind.i64 (List.getD ((unL (List.length b) b)).2 0 (0 : Int))))), .d (.v (.int .u16 (IntKind.wrap IntKind.u16 (num2 (List.getD (List.drop 1 (List.take (List.length ((unL (List.length b) b)).2) ((unL (List.length b) b)).2)) 0 (0 : Int)) (List.getD (List.drop 1 (List.take (List.length ((unL (List.length b) b)).2) ((unL (List.length b) b)).2)) 1 (0 : Int))))))]), ⟨0, [], []⟩))))))) (.need true (.need true (.ret (.e (.agg [.d (.sl tEv (([] : List (Prod Bool Int)) ++ ((unL (List.length b) b)).1)), .d (.v (.int .i64 (0 : Int))), .d (.v (.int .u16 (0 : Int)))]), ⟨0, [], []⟩)))))) (by kernel_rfl) ?_
  show Gives _ (.need _ (.ret (SV.e (.agg ((split tTr (untraceF b)).map .d)), (⟨0, [], []⟩ : St))))
  refine .rnd fun h1 => ?_
  have h1 : b.length ≤ 1000000000 := h1
  unfold untraceF
  generalize unL b.length b = u
  obtain ⟨ev, r⟩ := u
  refine .nd (by simpa using h1) (.ite (fun h => ?_) (fun h => ?_))
  · have h : (r.length : Int) = 3 := beq_iff_eq.1 h
    have h : r.length = 3 := by omega
    rw [if_pos h]
    simp only [List.take_length, List.nil_append, getD_drop]
    exact .need (inR_of (by omega) (by omega)) (.need (by simp [okB]; omega) (.nd (by rw [List.length_drop]; omega) (.need rfl (.need rfl (.refl _)))))
  · have h : ¬ (r.length : Int) = 3 := beq_eq_false_iff_ne.1 h
    have h : ¬ r.length = 3 := by omega
    rw [if_neg h, List.nil_append]
    exact .need rfl (.need rfl (.refl _))
end Go.Proofs.YtdngaaploooceaaDoor.Sy

/- Contracts: the numbers of a class are read. -/
set_option maxRecDepth 100000
namespace Go.Proofs.YtdngaaploooceaaDoor.Sy
open Go.RowKit Kit Go.Proofs
/-! ### class.Files, its row given away -/
def C37r : Cx := ⟨T, [], [], [], []⟩
theorem C37r_ok : CxOk Tryd.prog C37r := ⟨T_ok, .nil _, .nil _, .nil _⟩
theorem lp37r_ok : LpsOk 0 C37r nr37 lp37 fn37.loops := by
  refine .all (by kernel_rfl) ?_
  simp only [lp37, List.forall_mem_cons, List.not_mem_nil, false_imp_iff, implies_true, and_true]
  refine .pat q37 R37 (fun v => (v.1.2.2.1 - v.1.2.2.2.1).toNat) ?_
  rintro ⟨⟨⟨⟩, (L : List Ent), (n : Int), (k : Int), ⟨⟩⟩, ⟨(acc : List Int), ⟨⟩⟩⟩ ih
  refine Gives.run (t' := .ite (decide (k < n)) (.need (inR k (List.length L)) (.need true (.ite (!(((List.getD L (Int.toNat k) (ByteArray.empty, (false, (0 : Int))))).2).1) (.need true (.need (decide ((((List.length acc) + (List.length [k]) : Nat) * (Lay.bytes L3) : Nat) ≤ 140737488355328)) (.need (decide (((-(9223372036854775808 : Int) : Int) ≤ (k + (1 : Int) : Int)) ∧ ((k + (1 : Int) : Int) ≤ (9223372036854775807 : Int)))) (.ret (.nx, ⟨23, [(3, .e (.c (.row 20))), (7, rL tEnt L), (8, rI n), (9, rI (k + (1 : Int) : Int))], [(5, .cells 30 [.d (.v (.string ((List.getD L (Int.toNat k) (ByteArray.empty, (false, (0 : Int))))).1)), .d (.v (.bool (((List.getD L (Int.toNat k) (ByteArray.empty, (false, (0 : Int))))).2).1)), .d (.v (.int .i64 (((List.getD L (Int.toNat k) (ByteArray.empty, (false, (0 : Int))))).2).2))]), (20, .row tI 3 (acc ++ [k]))]⟩))))) (.need (decide (((-(9223372036854775808 : Int) : Int) ≤ (k + (1 : Int) : Int)) ∧ ((k + (1 : Int) : Int) ≤ (9223372036854775807 : Int)))) (.ret (.nx, ⟨23, [(3, .e (.c (.row 3))), (7, rL tEnt L), (8, rI n), (9, rI (k + (1 : Int) : Int))], [(3, .row tI 3 acc), (5, .cells 30 [.d (.v (.string ((List.getD L (Int.toNat k) (ByteArray.empty, (false, (0 : Int))))).1)), .d (.v (.bool (((List.getD L (Int.toNat k) (ByteArray.empty, (false, (0 : Int))))).2).1)), .d (.v (.int .i64 (((List.getD L (Int.toNat k) (ByteArray.empty, (false, (0 : Int))))).2).2))])]⟩)))))) (.ret (.ex 0, ⟨23, [(3, .e (.c (.row 3)))], [(3, .row tI 3 acc)]⟩))) (by kernel_rfl) ?_
  refine .rnd fun ⟨h1, h2, h3, h4, h5⟩ => ?_
  refine .lif (fun hk => ?_) (fun hk => ?_)
  · have e : (k + 1).toNat = k.toNat + 1 := by omega
    rw [drop_at L k.toNat (ByteArray.empty, false, 0) (by omega)]
    refine .lneed (inR_of h3 (by omega)) (.lneed rfl ?_)
    generalize L.getD k.toNat (ByteArray.empty, false, 0) = x
    refine .lite (fun hx => ?_) (fun hx => ?_)
    · have hx : x.2.1 = false := by simpa using hx
      have e1 : filesK k (x :: L.drop (k.toNat + 1)) = k :: filesK (k + 1) (L.drop (k.toNat + 1)) := by rw [filesK, hx]; rfl
      refine .lneed rfl (.lnd (by show (acc.length + 1) * 8 ≤ _; omega) (.lnd (by omega) ?_))
      refine Gives.next (σ' := q37.st (((), L, n, k + 1, ()), (acc ++ [k], ()))) (by kernel_rfl) ((ih (((), L, n, k + 1, ()), (acc ++ [k], ())) (by simp only; omega)).trans ?_)
      refine .nd ⟨h1, h2, by omega, by omega, by rw [List.length_append]; simp; omega⟩ ?_
      rw [e1, e, List.append_assoc]; exact .refl _
    · have hx : x.2.1 = true := by simpa using hx
      have e1 : filesK k (x :: L.drop (k.toNat + 1)) = filesK (k + 1) (L.drop (k.toNat + 1)) := by rw [filesK, hx]; rfl
      refine .lnd (by omega) ?_
      refine Gives.next (σ' := q37.st (((), L, n, k + 1, ()), (acc, ()))) (by kernel_rfl) ((ih (((), L, n, k + 1, ()), (acc, ())) (by simp only; omega)).trans ?_)
      refine .nd ⟨h1, h2, by omega, by omega, by omega⟩ ?_
      rw [e1, e]; exact .refl _
  · rw [List.drop_eq_nil_of_le (by omega)]
    simp only [filesK, List.append_nil]
    exact .refl _
def filesRCtr : Ctr := ctr (one (aAgg tCls)) fun a => .need (decide (a.1.1.length ≤ 1000000)) (.ret (.e (.c (.row 3)), [(3, .row tI 3 (filesK 0 a.1.1))]))
theorem filesR_ok : CtrOk Tryd.prog 22 filesRCtr := by
  refine .mk C37r_ok mixed (q := fn37) (.of Tryd.func22 (by kernel_rfl)) lp37r_ok (by decide) ?_
  rintro ⟨⟨(L : List Ent), c⟩, ⟨⟩⟩ hb
  refine Gives.of_eq (t' := .need (decide (((((List.length L) : Nat) : Int) = (((List.length L) : Nat) : Int)) ∧ (((((List.length L) : Nat) : Int) ≤ (1000000 : Int)) ∧ (((0 : Int) ≤ (0 : Int)) ∧ (((0 : Int) ≤ (((List.length L) : Nat) : Int)) ∧ ((((List.length ([] : List Int)) : Nat) : Int) ≤ (0 : Int))))))) (.ret (.e (.c (.row 3)), ⟨0, [], [(3, .row tI 3 (([] : List Int) ++ (filesK (0 : Int) (List.drop 0 L))))]⟩))) (by kernel_rfl) ?_
  show Gives _ (.need _ (.ret (SV.e (.c (.row 3)), (⟨0, [], [(3, .row tI 3 (filesK 0 L))]⟩ : St))))
  refine .rnd fun h => ?_
  have h : L.length ≤ 1000000 := h
  exact .nd ⟨rfl, by omega, by omega, by omega, by simp⟩ (.refl _)
end Go.Proofs.YtdngaaploooceaaDoor.Sy

/- Contracts: image.unkind. -/
set_option maxRecDepth 100000
namespace Go.Proofs.YtdngaaploooceaaDoor.Sy
open Go.RowKit Kit Go.Proofs
def qC : Frm := ⟨0, [(GH, .np LB 0), (GH + 1, .row (LB + 1)), (GH + 2, .row (LB + 2)), (GH + 3, .row (LB + 3)), (GH + 4, .row (LB + 4)), (GH + 5, .row (LB + 5))],
  [(LB, .cells 47 [.dat (.sl tInst), .dat (.sl .str), .row (LB + 1), .row (LB + 2), .dat tI, .dat tI, .dat tI, .row (LB + 3), .row (LB + 4), .row (LB + 5), .dat (.sl tEv), .dat tI, .dat (.int .u16)]), (LB + 1, .row tEnt 30), (LB + 2, .row tI 3), (LB + 3, .row tB 35), (LB + 4, .row tB 35), (LB + 5, .row .bool 4)]⟩
def ghC : List (Nat × SV) := [(GH, .e (.c (.np LB 0))), (GH + 1, .e (.c (.row (LB + 1)))), (GH + 2, .e (.c (.row (LB + 2)))), (GH + 3, .e (.c (.row (LB + 3)))), (GH + 4, .e (.c (.row (LB + 4)))), (GH + 5, .e (.c (.row (LB + 5))))]
def obC (m : Img) : List (Nat × Ob) := [(LB, .cells 47 [.d (.sl tInst m.1.1), .d (.sl .str m.1.2), .row (LB + 1), .row (LB + 2), .d (.v (.int .i64 m.2.1.2.2.1)), .d (.v (.int .i64 m.2.1.2.2.2.1)), .d (.v (.int .i64 m.2.1.2.2.2.2)), .row (LB + 3), .row (LB + 4), .row (LB + 5), .d (.sl tEv m.2.2.2.1), .d (.v (.int .i64 m.2.2.2.2.1)), .d (.v (.int .u16 m.2.2.2.2.2))]), (LB + 1, .row tEnt 30 m.2.1.1), (LB + 2, .row tI 3 m.2.1.2.1), (LB + 3, .row tB 35 m.2.2.1.1), (LB + 4, .row tB 35 m.2.2.1.2.1), (LB + 5, .row .bool 4 m.2.2.1.2.2)]
/-- an image that is lent, its rows apart -/
def stC (m : Img) : St := ⟨0, ghC, obC m⟩
def imgO (o : obV qC.os) : Img :=
  ((o.1.1, o.1.2.1), (o.2.1, o.2.2.1, o.1.2.2.2.2.1, o.1.2.2.2.2.2.1, o.1.2.2.2.2.2.2.1), (o.2.2.2.1, o.2.2.2.2.1, o.2.2.2.2.2.1), (o.1.2.2.2.2.2.2.2.2.2.2.1, o.1.2.2.2.2.2.2.2.2.2.2.2.1, o.1.2.2.2.2.2.2.2.2.2.2.2.2.1))
theorem qC_st (v : qC.V) : qC.st v = stC (imgO v.2) := rfl
def setAt : List Ent → List Int → List Int → List Ent
  | t, [], _ => t
  | t, i :: is, b => setAt (t.set i.toNat ((t.getD i.toNat (ByteArray.empty, false, 0)).1, (t.getD i.toNat (ByteArray.empty, false, 0)).2.1, IntKind.wrap .i64 (b.getD 0 0))) is (b.drop 1)
noncomputable def fn57 := mkFn Tryd.f39
noncomputable def C57 : Cx := ⟨T, FL, [(57, numCtr), (22, filesRCtr)], [], []⟩
theorem C57_ok : CxOk Tryd.prog C57 := ⟨T_ok, FL_ok, .cons num_ok (.cons filesR_ok (.nil _)), .nil _⟩
def q57a : Frm := ⟨90, [(0, .np LB 2), (1, .dat tB), (50, .row 4050), (51, .dat tI), (52, .dat tI), (GH, .np LB 0), (GH + 1, .row (LB + 1)), (GH + 2, .row (LB + 2)), (GH + 3, .row (LB + 3)), (GH + 4, .row (LB + 4)), (GH + 5, .row (LB + 5))],
  [(4050, .row tI 3), (LB, .cells 47 [.dat (.sl tInst), .dat (.sl .str), .row (LB + 1), .row (LB + 2), .dat tI, .dat tI, .dat tI, .row (LB + 3), .row (LB + 4), .row (LB + 5), .dat (.sl tEv), .dat tI, .dat (.int .u16)]), (LB + 1, .row tEnt 30), (LB + 2, .row tI 3), (LB + 3, .row tB 35), (LB + 4, .row tB 35), (LB + 5, .row .bool 4)]⟩
def withTree (m : Img) (t : List Ent) : Img := (m.1, (t, m.2.1.2), m.2.2)
def withArgs (m : Img) (ar : List Int) : Img := (m.1, (m.2.1.1, ar, m.2.1.2.2), m.2.2)
def st57 (m : Img) (b : List Int) : St := ⟨90, (0, .e (.c (.np LB 2))) :: (1, rL tU b) :: ghC, obC m⟩
def R57a : q57a.V → Tr (Ex × St) := fun v =>
  .need (decide (v.1.2.2.2.1 = v.2.1.length ∧ v.1.2.2.2.1 ≤ 1000000 ∧ 0 ≤ v.1.2.2.2.2.1 ∧ v.1.2.2.2.2.1 ≤ v.1.2.2.2.1 ∧ idxIn v.2.2.2.1.length v.2.1 = true ∧ v.1.2.2.2.1 - v.1.2.2.2.2.1 ≤ v.1.2.1.length))
    (.ret (.ex 0, st57 (withTree (imgO v.2.2) (setAt v.2.2.2.1 (v.2.1.drop v.1.2.2.2.2.1.toNat) v.1.2.1)) (v.1.2.1.drop (v.1.2.2.2.1 - v.1.2.2.2.2.1).toNat)))
def q57b : Frm := ⟨90, [(0, .np LB 2), (1, .dat tB), (74, .dat tI), (75, .dat tI), (GH, .np LB 0), (GH + 1, .row (LB + 1)), (GH + 2, .row (LB + 2)), (GH + 3, .row (LB + 3)), (GH + 4, .row (LB + 4)), (GH + 5, .row (LB + 5))],
  [(LB, .cells 47 [.dat (.sl tInst), .dat (.sl .str), .row (LB + 1), .row (LB + 2), .dat tI, .dat tI, .dat tI, .row (LB + 3), .row (LB + 4), .row (LB + 5), .dat (.sl tEv), .dat tI, .dat (.int .u16)]), (LB + 1, .row tEnt 30), (LB + 2, .row tI 3), (LB + 3, .row tB 35), (LB + 4, .row tB 35), (LB + 5, .row .bool 4)]⟩
def R57b : q57b.V → Tr (Ex × St) := fun v =>
  .need (decide (v.1.2.2.1 = v.2.2.2.1.length ∧ v.1.2.2.1 ≤ 1000000 ∧ 0 ≤ v.1.2.2.2.1 ∧ v.1.2.2.2.1 ≤ v.1.2.2.1 ∧ v.1.2.1.length = v.2.2.2.1.length))
    (.ret (.ex 2, ⟨90, ghC, obC (withArgs (imgO v.2) (v.2.2.2.1.take v.1.2.2.2.1.toNat ++ (v.1.2.1.drop v.1.2.2.2.1.toNat).map (IntKind.wrap .i64)))⟩))
noncomputable def lp57 : LP := [(0, sumP q57a R57a), (2, sumP q57b R57b)]
set_option maxHeartbeats 2000000 in
theorem lp57a_ok : SumOk 0 C57 [] lp57 (fn57.at 0) (sumP q57a R57a) := by
  refine .pat q57a R57a (fun v => (v.1.2.2.2.1 - v.1.2.2.2.2.1).toNat) ?_
  rintro ⟨⟨⟨⟩, (b : List Int), ⟨⟩, (n : Int), (k : Int), ge⟩, ⟨(L : List Int), ob⟩⟩ ih
  obtain ⟨⟨iL, iN, ⟨⟩, ⟨⟩, (c1 : Int), (c2 : Int), (c3 : Int), ⟨⟩, ⟨⟩, ⟨⟩, tl, te, tc, ⟨⟩⟩, (t : List Ent), (ar : List Int), fs, fa, ff, ⟨⟩⟩ := ob
  refine Gives.run (t' := .ite (decide (k < n)) (.need (inR k (List.length L)) (.need (decide ((Int.toNat k) < (List.length L))) (.need (inR (0 : Int) (List.length b)) (.need (inR (List.getD L (Int.toNat k) (0 : Int)) (List.length t)) (.need (decide ((Int.toNat (List.getD L (Int.toNat k) (0 : Int))) < (List.length t))) (.need (okB (1 : Int) (((List.length b) : Nat) : Int) (List.length b)) (.need (decide (((-(9223372036854775808 : Int) : Int) ≤ (k + (1 : Int) : Int)) ∧ ((k + (1 : Int) : Int) ≤ (9223372036854775807 : Int)))) (.ret (.nx, ⟨90, [(0, .e (.c (.np 1000000000000 2))), (1, rL tU (List.drop 1 (List.take (List.length b) b))), (50, .e (.c (.row 4050))), (51, rI n), (52, rI (k + (1 : Int) : Int)), (100000, .e (.c (.np 1000000000000 0))), (100001, .e (.c (.row 1000000000001))), (100002, .e (.c (.row 1000000000002))), (100003, .e (.c (.row 1000000000003))), (100004, .e (.c (.row 1000000000004))), (100005, .e (.c (.row 1000000000005)))], [(4050, .row tI 3 L), (1000000000000, .cells 47 [.d (.sl tInst iL), .d (.sl Ty.str iN), .row 1000000000001, .row 1000000000002, .d (.v (.int .i64 c1)), .d (.v (.int .i64 c2)), .d (.v (.int .i64 c3)), .row 1000000000003, .row 1000000000004, .row 1000000000005, .d (.sl tEv tl), .d (.v (.int .i64 te)), .d (.v (.int .u16 tc))]), (1000000000001, .row tEnt 30 (List.set t (Int.toNat (List.getD L (Int.toNat k) (0 : Int))) (((List.getD t (Int.toNat (List.getD L (Int.toNat k) (0 : Int))) (ByteArray.empty, (false, (0 : Int))))).1, ((((List.getD t (Int.toNat (List.getD L (Int.toNat k) (0 : Int))) (ByteArray.empty, (false, (0 : Int))))).2).1, (IntKind.wrap IntKind.i64 (List.getD b 0 (0 : Int))))))), (1000000000002, .row tI 3 ar), (1000000000003, .row tB 35 fs), (1000000000004, .row tB 35 fa), (1000000000005, .row Ty.bool 4 ff)]⟩))))))))) (.ret (.ex 0, ⟨90, [(0, .e (.c (.np 1000000000000 2))), (1, rL tU b), (100000, .e (.c (.np 1000000000000 0))), (100001, .e (.c (.row 1000000000001))), (100002, .e (.c (.row 1000000000002))), (100003, .e (.c (.row 1000000000003))), (100004, .e (.c (.row 1000000000004))), (100005, .e (.c (.row 1000000000005)))], [(1000000000000, .cells 47 [.d (.sl tInst iL), .d (.sl Ty.str iN), .row 1000000000001, .row 1000000000002, .d (.v (.int .i64 c1)), .d (.v (.int .i64 c2)), .d (.v (.int .i64 c3)), .row 1000000000003, .row 1000000000004, .row 1000000000005, .d (.sl tEv tl), .d (.v (.int .i64 te)), .d (.v (.int .u16 tc))]), (1000000000001, .row tEnt 30 t), (1000000000002, .row tI 3 ar), (1000000000003, .row tB 35 fs), (1000000000004, .row tB 35 fa), (1000000000005, .row Ty.bool 4 ff)]⟩))) (by kernel_rfl) ?_
  refine .rnd fun ⟨h1, h2, h3, h4, h5, h6⟩ => ?_
  have h1 : n = L.length := h1
  have h2 : n ≤ 1000000 := h2
  have h3 : 0 ≤ k := h3
  have h4 : k ≤ n := h4
  have h5 : idxIn t.length L = true := h5
  have h6 : n - k ≤ b.length := h6
  show Gives _ (.ret (Ex.ex 0, st57 (withTree ((iL, iN), (t, ar, c1, c2, c3), (fs, fa, ff), (tl, te, tc)) (setAt t (L.drop k.toNat) b)) (b.drop (n - k).toNat)))
  refine .lif (fun hk => ?_) (fun hk => ?_)
  · have e : (n - k).toNat = (n - (k + 1)).toNat + 1 := by omega
    have e' : (k + 1).toNat = k.toNat + 1 := by omega
    have hi := List.all_eq_true.1 h5 _ (List.getElem_mem (show k.toNat < L.length by omega))
    rw [show L[k.toNat]'(by omega) = L.getD k.toNat 0 by simp [List.getD_eq_getElem?_getD, List.getElem?_eq_getElem (show k.toNat < L.length by omega)]] at hi
    rw [drop_at L k.toNat 0 (by omega)]
    refine .lneed (inR_of h3 (by omega)) ?_
    refine .lnd (by omega) (.lneed (inR_of (by omega) (by omega)) ?_)
    generalize L.getD k.toNat 0 = x at hi ⊢
    have hi := of_decide_eq_true hi
    refine .lneed (inR_of hi.1 (by have := hi.2; omega)) (.lnd (by have := hi.2; have := hi.1; omega) (.lneed (by simp [okB]; omega) (.lnd (by omega) ?_)))
    rw [List.take_length]
    refine Gives.next (σ' := q57a.st (((), b.drop 1, (), n, k + 1, ge), (L, ((iL, iN, (), (), c1, c2, c3, (), (), (), tl, te, tc, ()), t.set x.toNat ((t.getD x.toNat (ByteArray.empty, false, 0)).1, (t.getD x.toNat (ByteArray.empty, false, 0)).2.1, IntKind.wrap .i64 (b.getD 0 0)), ar, fs, fa, ff, ())))) (by kernel_rfl) ((ih (((), b.drop 1, (), n, k + 1, ge), (L, ((iL, iN, (), (), c1, c2, c3, (), (), (), tl, te, tc, ()), t.set x.toNat ((t.getD x.toNat (ByteArray.empty, false, 0)).1, (t.getD x.toNat (ByteArray.empty, false, 0)).2.1, IntKind.wrap .i64 (b.getD 0 0)), ar, fs, fa, ff, ()))) (by simp only; omega)).trans ?_)
    refine .nd ⟨h1, h2, by show 0 ≤ k + 1; omega, by show k + 1 ≤ n; omega, by show idxIn (t.set _ _).length L = true; rw [List.length_set]; exact h5, by show n - (k + 1) ≤ ((b.drop 1).length : Int); rw [List.length_drop]; omega⟩ ?_
    show Gives (.ret (Ex.ex 0, st57 (withTree ((iL, iN), (t.set x.toNat _, ar, c1, c2, c3), (fs, fa, ff), (tl, te, tc)) (setAt (t.set x.toNat _) (L.drop (k + 1).toNat) (b.drop 1))) ((b.drop 1).drop (n - (k + 1)).toNat))) _
    rw [e', e, setAt, List.drop_drop, Nat.add_comm 1]
    exact .refl _
  · rw [List.drop_eq_nil_of_le (by omega), show (n - k).toNat = 0 by omega]
    exact .refl _
set_option maxHeartbeats 2000000 in
theorem lp57b_ok : SumOk 0 C57 [] lp57 (fn57.at 2) (sumP q57b R57b) := by
  refine .pat q57b R57b (fun v => (v.1.2.2.1 - v.1.2.2.2.1).toNat) ?_
  rintro ⟨⟨⟨⟩, (b : List Int), (n : Int), (k : Int), ge⟩, ob⟩ ih
  obtain ⟨⟨iL, iN, ⟨⟩, ⟨⟩, (c1 : Int), (c2 : Int), (c3 : Int), ⟨⟩, ⟨⟩, ⟨⟩, tl, te, tc, ⟨⟩⟩, (t : List Ent), (ar : List Int), fs, fa, ff, ⟨⟩⟩ := ob
  refine Gives.run (t' := .ite (decide (k < n)) (.need (inR k (List.length b)) (.need (inR k (List.length ar)) (.need (decide ((Int.toNat k) < (List.length ar))) (.need (decide (((-(9223372036854775808 : Int) : Int) ≤ (k + (1 : Int) : Int)) ∧ ((k + (1 : Int) : Int) ≤ (9223372036854775807 : Int)))) (.ret (.nx, ⟨90, [(0, .e (.c (.np 1000000000000 2))), (1, rL tU b), (74, rI n), (75, rI (k + (1 : Int) : Int)), (100000, .e (.c (.np 1000000000000 0))), (100001, .e (.c (.row 1000000000001))), (100002, .e (.c (.row 1000000000002))), (100003, .e (.c (.row 1000000000003))), (100004, .e (.c (.row 1000000000004))), (100005, .e (.c (.row 1000000000005)))], [(1000000000000, .cells 47 [.d (.sl tInst iL), .d (.sl Ty.str iN), .row 1000000000001, .row 1000000000002, .d (.v (.int .i64 c1)), .d (.v (.int .i64 c2)), .d (.v (.int .i64 c3)), .row 1000000000003, .row 1000000000004, .row 1000000000005, .d (.sl tEv tl), .d (.v (.int .i64 te)), .d (.v (.int .u16 tc))]), (1000000000001, .row tEnt 30 t), (1000000000002, .row tI 3 (List.set ar (Int.toNat k) (IntKind.wrap IntKind.i64 (List.getD b (Int.toNat k) (0 : Int))))), (1000000000003, .row tB 35 fs), (1000000000004, .row tB 35 fa), (1000000000005, .row Ty.bool 4 ff)]⟩)))))) (.ret (.ex 2, ⟨90, [(100000, .e (.c (.np 1000000000000 0))), (100001, .e (.c (.row 1000000000001))), (100002, .e (.c (.row 1000000000002))), (100003, .e (.c (.row 1000000000003))), (100004, .e (.c (.row 1000000000004))), (100005, .e (.c (.row 1000000000005)))], [(1000000000000, .cells 47 [.d (.sl tInst iL), .d (.sl Ty.str iN), .row 1000000000001, .row 1000000000002, .d (.v (.int .i64 c1)), .d (.v (.int .i64 c2)), .d (.v (.int .i64 c3)), .row 1000000000003, .row 1000000000004, .row 1000000000005, .d (.sl tEv tl), .d (.v (.int .i64 te)), .d (.v (.int .u16 tc))]), (1000000000001, .row tEnt 30 t), (1000000000002, .row tI 3 ar), (1000000000003, .row tB 35 fs), (1000000000004, .row tB 35 fa), (1000000000005, .row Ty.bool 4 ff)]⟩))) (by kernel_rfl) ?_
  refine .rnd fun ⟨h1, h2, h3, h4, h5⟩ => ?_
  have h1 : n = ar.length := h1
  have h2 : n ≤ 1000000 := h2
  have h3 : 0 ≤ k := h3
  have h4 : k ≤ n := h4
  have h5 : b.length = ar.length := h5
  show Gives _ (.ret (Ex.ex 2, (⟨90, ghC, obC (withArgs ((iL, iN), (t, ar, c1, c2, c3), (fs, fa, ff), (tl, te, tc)) (ar.take k.toNat ++ (b.drop k.toNat).map (IntKind.wrap .i64)))⟩ : St)))
  refine .lif (fun hk => ?_) (fun hk => ?_)
  · have e' : (k + 1).toNat = k.toNat + 1 := by omega
    refine .lneed (inR_of h3 (by omega)) (.lneed (inR_of h3 (by omega)) (.lnd (by omega) (.lnd (by omega) ?_)))
    refine Gives.next (σ' := q57b.st (((), b, n, k + 1, ge), ((iL, iN, (), (), c1, c2, c3, (), (), (), tl, te, tc, ()), t, ar.set k.toNat (IntKind.wrap .i64 (b.getD k.toNat 0)), fs, fa, ff, ()))) (by kernel_rfl) ((ih (((), b, n, k + 1, ge), ((iL, iN, (), (), c1, c2, c3, (), (), (), tl, te, tc, ()), t, ar.set k.toNat (IntKind.wrap .i64 (b.getD k.toNat 0)), fs, fa, ff, ())) (by simp only; omega)).trans ?_)
    refine .nd ⟨by show n = ((ar.set _ _).length : Int); rw [List.length_set]; exact h1, h2, by show 0 ≤ k + 1; omega, by show k + 1 ≤ n; omega, by show b.length = (ar.set _ _).length; rw [List.length_set]; exact h5⟩ ?_
    show Gives (.ret (Ex.ex 2, (⟨90, ghC, obC (withArgs ((iL, iN), (t, ar.set k.toNat (IntKind.wrap .i64 (b.getD k.toNat 0)), c1, c2, c3), (fs, fa, ff), (tl, te, tc)) ((ar.set k.toNat (IntKind.wrap .i64 (b.getD k.toNat 0))).take (k + 1).toNat ++ (b.drop (k + 1).toNat).map (IntKind.wrap .i64)))⟩ : St))) _
    rw [e', drop_at b k.toNat 0 (by omega), List.map_cons]
    have e2 : (ar.set k.toNat (IntKind.wrap .i64 (b.getD k.toNat 0))).take (k.toNat + 1) = ar.take k.toNat ++ [IntKind.wrap .i64 (b.getD k.toNat 0)] := by
      rw [List.take_add_one, List.take_set_of_le (Nat.le_refl _), List.getElem?_set_self (by omega)]; rfl
    rw [e2, List.append_assoc]
    exact .refl _
  · rw [show k.toNat = ar.length by omega, List.take_length, List.drop_eq_nil_of_le (by omega), List.map_nil, List.append_nil]
    exact .refl _
theorem lp57_ok : LpsOk 0 C57 [] lp57 fn57.loops := by
  refine .all (by kernel_rfl) ?_
  simp only [lp57, List.forall_mem_cons, List.not_mem_nil, false_imp_iff, implies_true, and_true]
  exact ⟨lp57a_ok, lp57b_ok⟩
def unkF (c : Cls) (b : List Int) : Bool × Cls :=
  if b.length < 4 then (false, c)
  else if (b.drop 4).length ≠ (filesK 0 c.1).length + c.2.1.length then (false, (c.1, c.2.1, IntKind.wrap .i64 (b.getD 0 0), IntKind.wrap .i64 (b.getD 1 0), num2 (b.getD 2 0) (b.getD 3 0)))
  else (true, (setAt c.1 (filesK 0 c.1) (b.drop 4), ((b.drop 4).drop (filesK 0 c.1).length).map (IntKind.wrap .i64), IntKind.wrap .i64 (b.getD 0 0), IntKind.wrap .i64 (b.getD 1 0), num2 (b.getD 2 0) (b.getD 3 0)))
def withCls (m : Img) (c : Cls) : Img := (m.1, c, m.2.2)
def unkL (a : Unit × List Int × Unit) (v : qC.V) : Tr (SV × St) := .need (decide ((imgO v.2).2.1.1.length ≤ 1000000 ∧ (imgO v.2).2.1.2.1.length ≤ 1000000)) (.ret (rB (unkF (imgO v.2).2.1 a.2.1).1, stC (withCls (imgO v.2) (unkF (imgO v.2).2.1 a.2.1).2)))
def unkCtr : Ctr := ctrL (two (aNp LB 2) (aVal tB)) qC unkL
def sC (m : Img) (b : List Int) (x : List (Nat × SV)) : St := ⟨90, [(0, .e (.c (.np LB 2))), (1, rL tU b)] ++ x ++ ghC, obC m⟩
set_option maxHeartbeats 4000000 in
theorem unk_ok : CtrOk Tryd.prog 39 unkCtr := by
  refine .mkL C57_ok mixed (q := fn57) (.of Tryd.func39 (by kernel_rfl)) lp57_ok (by decide) ?_
  rintro ⟨⟨⟩, (b : List Int), ⟨⟩⟩ v
  rw [qC_st]
  show Gives _ (.need (decide ((imgO v.2).2.1.1.length ≤ 1000000 ∧ (imgO v.2).2.1.2.1.length ≤ 1000000)) (.ret (rB (unkF (imgO v.2).2.1 b).1, stC (withCls (imgO v.2) (unkF (imgO v.2).2.1 b).2))))
  generalize imgO v.2 = m
  obtain ⟨⟨iL, iN⟩, ⟨(t : List Ent), (ar : List Int), (c1 : Int), (c2 : Int), (c3 : Int)⟩, ⟨fs, fa, ff⟩, ⟨tl, te, tc⟩⟩ := m
  refine .rnd fun ⟨h1, h2⟩ => ?_
  have h1 : t.length ≤ 1000000 := h1
  have h2 : ar.length ≤ 1000000 := h2
  refine Gives.seq (by kernel_rfl) ?_
  refine Gives.run (t' := .ret (.nx, ⟨90, [(0, .e (.c (.np 1000000000000 2))), (1, rL tU b), (100000, .e (.c (.np 1000000000000 0))), (100001, .e (.c (.row 1000000000001))), (100002, .e (.c (.row 1000000000002))), (100003, .e (.c (.row 1000000000003))), (100004, .e (.c (.row 1000000000004))), (100005, .e (.c (.row 1000000000005)))], [(1000000000000, .cells 47 [.d (.sl tInst iL), .d (.sl Ty.str iN), .row 1000000000001, .row 1000000000002, .d (.v (.int .i64 c1)), .d (.v (.int .i64 c2)), .d (.v (.int .i64 c3)), .row 1000000000003, .row 1000000000004, .row 1000000000005, .d (.sl tEv tl), .d (.v (.int .i64 te)), .d (.v (.int .u16 tc))]), (1000000000001, .row tEnt 30 t), (1000000000002, .row tI 3 ar), (1000000000003, .row tB 35 fs), (1000000000004, .row tB 35 fa), (1000000000005, .row Ty.bool 4 ff)]⟩)) (by kernel_rfl) ?_
  refine Gives.goto rfl (Gives.seq (by kernel_rfl) ?_)
  refine Gives.run (t' := .ite (decide ((((List.length b) : Nat) : Int) < (4 : Int))) (.ret (.rt, ⟨90, [(4, .e (.c (.kb false))), (100000, .e (.c (.np 1000000000000 0))), (100001, .e (.c (.row 1000000000001))), (100002, .e (.c (.row 1000000000002))), (100003, .e (.c (.row 1000000000003))), (100004, .e (.c (.row 1000000000004))), (100005, .e (.c (.row 1000000000005)))], [(1000000000000, .cells 47 [.d (.sl tInst iL), .d (.sl Ty.str iN), .row 1000000000001, .row 1000000000002, .d (.v (.int .i64 c1)), .d (.v (.int .i64 c2)), .d (.v (.int .i64 c3)), .row 1000000000003, .row 1000000000004, .row 1000000000005, .d (.sl tEv tl), .d (.v (.int .i64 te)), .d (.v (.int .u16 tc))]), (1000000000001, .row tEnt 30 t), (1000000000002, .row tI 3 ar), (1000000000003, .row tB 35 fs), (1000000000004, .row tB 35 fa), (1000000000005, .row Ty.bool 4 ff)]⟩)) (.ret (.nx, ⟨90, [(0, .e (.c (.np 1000000000000 2))), (1, rL tU b), (10, .e (.c (.kb false))), (100000, .e (.c (.np 1000000000000 0))), (100001, .e (.c (.row 1000000000001))), (100002, .e (.c (.row 1000000000002))), (100003, .e (.c (.row 1000000000003))), (100004, .e (.c (.row 1000000000004))), (100005, .e (.c (.row 1000000000005)))], [(1000000000000, .cells 47 [.d (.sl tInst iL), .d (.sl Ty.str iN), .row 1000000000001, .row 1000000000002, .d (.v (.int .i64 c1)), .d (.v (.int .i64 c2)), .d (.v (.int .i64 c3)), .row 1000000000003, .row 1000000000004, .row 1000000000005, .d (.sl tEv tl), .d (.v (.int .i64 te)), .d (.v (.int .u16 tc))]), (1000000000001, .row tEnt 30 t), (1000000000002, .row tI 3 ar), (1000000000003, .row tB 35 fs), (1000000000004, .row tB 35 fa), (1000000000005, .row Ty.bool 4 ff)]⟩))) (by kernel_rfl) ?_
  refine .lif (fun h4 => ?_) (fun h4 => ?_)
  · rw [show unkF (t, ar, c1, c2, c3) b = (false, (t, ar, c1, c2, c3)) from if_pos (by omega)]
    exact Gives.of_eq (t' := .ret (rB false, stC ((iL, iN), (t, ar, c1, c2, c3), (fs, fa, ff), (tl, te, tc)))) (by kernel_rfl) (.refl _)
  have h24 : 2 ≤ ((b.take b.length).drop 2).length := by rw [List.take_length, List.length_drop]; omega
  refine Gives.goto rfl (Gives.seq (by kernel_rfl) ?_)
  refine Gives.run (t' := .need (inR (0 : Int) (List.length b)) (.need (inR (1 : Int) (List.length b)) (.need (okB (2 : Int) (((List.length b) : Nat) : Int) (List.length b)) (.need (decide (2 ≤ (List.length (List.drop 2 (List.take (List.length b) b))))) (.need (inR (0 : Int) (List.length b)) (.need (inR (1 : Int) (List.length b)) (.need (okB (2 : Int) (((List.length b) : Nat) : Int) (List.length b)) (.need (decide (2 ≤ (List.length (List.drop 2 (List.take (List.length b) b))))) (.need (decide ((List.length t) = (List.length t))) (.need (decide ((List.length ar) = (List.length ar))) (.need (decide ((List.length fs) = (List.length fs))) (.need (decide ((List.length fa) = (List.length fa))) (.need (decide ((List.length ff) = (List.length ff))) (.need (decide ((List.length t) = (List.length t))) (.need (decide ((List.length ar) = (List.length ar))) (.need (decide ((List.length fs) = (List.length fs))) (.need (decide ((List.length fa) = (List.length fa))) (.need (decide ((List.length ff) = (List.length ff))) (.need (decide ((List.length t) = (List.length t))) (.need (decide ((List.length ar) = (List.length ar))) (.need (decide ((List.length fs) = (List.length fs))) (.need (decide ((List.length fa) = (List.length fa))) (.need (decide ((List.length ff) = (List.length ff))) (.need (decide ((List.length t) = (List.length t))) (.need (decide ((List.length ar) = (List.length ar))) (.need (decide ((List.length fs) = (List.length fs))) (.need (decide ((List.length fa) = (List.length fa))) (.need (decide ((List.length ff) = (List.length ff))) (.ret (.nx, ⟨90, [(0, .e (.c (.np 1000000000000 2))), (1, rL tU b), (100000, .e (.c (.np 1000000000000 0))), (100001, .e (.c (.row 1000000000001))), (100002, .e (.c (.row 1000000000002))), (100003, .e (.c (.row 1000000000003))), (100004, .e (.c (.row 1000000000004))), (100005, .e (.c (.row 1000000000005)))], [(1000000000000, .cells 47 [.d (.sl tInst iL), .d (.sl Ty.str iN), .row 1000000000001, .row 1000000000002, .d (.v (.int .i64 (IntKind.wrap IntKind.i64 (List.getD b 0 (0 : Int))))), .d (.v (.int .i64 (IntKind.wrap IntKind.i64 (List.getD b 1 (0 : Int))))), .d (.v (.int .i64 (num2 (List.getD (List.drop 2 (List.take (List.length b) b)) 0 (0 : Int)) (List.getD (List.drop 2 (List.take (List.length b) b)) 1 (0 : Int))))), .row 1000000000003, .row 1000000000004, .row 1000000000005, .d (.sl tEv tl), .d (.v (.int .i64 te)), .d (.v (.int .u16 tc))]), (1000000000001, .row tEnt 30 t), (1000000000002, .row tI 3 ar), (1000000000003, .row tB 35 fs), (1000000000004, .row tB 35 fa), (1000000000005, .row Ty.bool 4 ff)]⟩)))))))))))))))))))))))))))))) (by kernel_rfl) ?_
  repeat' first | with_reducible refine Gives.lneed (b := true) rfl ?_ | with_reducible refine Gives.lnd h24 ?_ | (with_reducible refine Gives.lnd ?_ ?_; focus omega) | with_reducible refine Gives.lneed (inR_of (k := 0) (by omega) (by omega)) ?_ | with_reducible refine Gives.lneed (inR_of (k := 1) (by omega) (by omega)) ?_ | (with_reducible refine Gives.lneed (b := okB _ _ _) ?_ ?_; focus (simp [okB]; omega))
  refine Gives.goto (σ' := sC ((iL, iN), (t, ar, IntKind.wrap .i64 (b.getD 0 0), IntKind.wrap .i64 (b.getD 1 0), num2 (b.getD 2 0) (b.getD 3 0)), (fs, fa, ff), (tl, te, tc)) b []) (by simp only [List.take_length, getD_drop]; rfl) ?_
  generalize hx1 : IntKind.wrap .i64 (b.getD 0 0) = x1
  generalize hx2 : IntKind.wrap .i64 (b.getD 1 0) = x2
  generalize hx3 : num2 (b.getD 2 0) (b.getD 3 0) = x3
  refine Gives.seq (by kernel_rfl) ?_
  refine Gives.run (t' := .need (okB (4 : Int) (((List.length b) : Nat) : Int) (List.length b)) (.ret (.nx, ⟨90, [(0, .e (.c (.np 1000000000000 2))), (1, rL tU (List.drop 4 (List.take (List.length b) b))), (100000, .e (.c (.np 1000000000000 0))), (100001, .e (.c (.row 1000000000001))), (100002, .e (.c (.row 1000000000002))), (100003, .e (.c (.row 1000000000003))), (100004, .e (.c (.row 1000000000004))), (100005, .e (.c (.row 1000000000005)))], [(1000000000000, .cells 47 [.d (.sl tInst iL), .d (.sl Ty.str iN), .row 1000000000001, .row 1000000000002, .d (.v (.int .i64 x1)), .d (.v (.int .i64 x2)), .d (.v (.int .i64 x3)), .row 1000000000003, .row 1000000000004, .row 1000000000005, .d (.sl tEv tl), .d (.v (.int .i64 te)), .d (.v (.int .u16 tc))]), (1000000000001, .row tEnt 30 t), (1000000000002, .row tI 3 ar), (1000000000003, .row tB 35 fs), (1000000000004, .row tB 35 fa), (1000000000005, .row Ty.bool 4 ff)]⟩))) (by kernel_rfl) ?_
  refine .lneed (by simp [okB]; omega) ?_
  refine Gives.goto (σ' := sC ((iL, iN), (t, ar, x1, x2, x3), (fs, fa, ff), (tl, te, tc)) (b.drop 4) []) (by rw [List.take_length]; rfl) ?_
  have hu : unkF (t, ar, c1, c2, c3) b = if (b.drop 4).length ≠ (filesK 0 t).length + ar.length then (false, (t, ar, x1, x2, x3)) else (true, (setAt t (filesK 0 t) (b.drop 4), ((b.drop 4).drop (filesK 0 t).length).map (IntKind.wrap .i64), x1, x2, x3)) := by
    rw [← hx1, ← hx2, ← hx3]; exact if_neg (by omega)
  rw [hu]
  clear hu hx1 hx2 hx3
  generalize b.drop 4 = r
  have hfl := filesK_len t 0
  refine Gives.seq (by kernel_rfl) ?_
  refine Gives.run (t' := .need true (.need (decide ((List.length t) ≤ 1000000)) (.need (decide (((-(9223372036854775808 : Int) : Int) ≤ ((((List.length (filesK (0 : Int) t)) : Nat) : Int) + (((List.length ar) : Nat) : Int) : Int)) ∧ (((((List.length (filesK (0 : Int) t)) : Nat) : Int) + (((List.length ar) : Nat) : Int) : Int) ≤ (9223372036854775807 : Int)))) (.need true (.need (decide ((List.length t) ≤ 1000000)) (.need (decide (((-(9223372036854775808 : Int) : Int) ≤ ((((List.length (filesK (0 : Int) t)) : Nat) : Int) + (((List.length ar) : Nat) : Int) : Int)) ∧ (((((List.length (filesK (0 : Int) t)) : Nat) : Int) + (((List.length ar) : Nat) : Int) : Int) ≤ (9223372036854775807 : Int)))) (.need (decide ((List.length t) = (List.length t))) (.need (decide ((List.length ar) = (List.length ar))) (.need (decide ((List.length fs) = (List.length fs))) (.need (decide ((List.length fa) = (List.length fa))) (.need (decide ((List.length ff) = (List.length ff))) (.need (decide ((List.length t) = (List.length t))) (.need (decide ((List.length ar) = (List.length ar))) (.need (decide ((List.length fs) = (List.length fs))) (.need (decide ((List.length fa) = (List.length fa))) (.need (decide ((List.length ff) = (List.length ff))) (.ite ((((List.length r) : Nat) : Int) != ((((List.length (filesK (0 : Int) t)) : Nat) : Int) + (((List.length ar) : Nat) : Int) : Int)) (.ret (.rt, ⟨90, [(4, .e (.c (.kb false))), (100000, .e (.c (.np 1000000000000 0))), (100001, .e (.c (.row 1000000000001))), (100002, .e (.c (.row 1000000000002))), (100003, .e (.c (.row 1000000000003))), (100004, .e (.c (.row 1000000000004))), (100005, .e (.c (.row 1000000000005)))], [(1000000000000, .cells 47 [.d (.sl tInst iL), .d (.sl Ty.str iN), .row 1000000000001, .row 1000000000002, .d (.v (.int .i64 x1)), .d (.v (.int .i64 x2)), .d (.v (.int .i64 x3)), .row 1000000000003, .row 1000000000004, .row 1000000000005, .d (.sl tEv tl), .d (.v (.int .i64 te)), .d (.v (.int .u16 tc))]), (1000000000001, .row tEnt 30 t), (1000000000002, .row tI 3 ar), (1000000000003, .row tB 35 fs), (1000000000004, .row tB 35 fa), (1000000000005, .row Ty.bool 4 ff)]⟩)) (.ret (.nx, ⟨90, [(0, .e (.c (.np 1000000000000 2))), (1, rL tU r), (46, .e (.c (.kb false))), (100000, .e (.c (.np 1000000000000 0))), (100001, .e (.c (.row 1000000000001))), (100002, .e (.c (.row 1000000000002))), (100003, .e (.c (.row 1000000000003))), (100004, .e (.c (.row 1000000000004))), (100005, .e (.c (.row 1000000000005)))], [(4038, .row tI 3 (filesK (0 : Int) t)), (1000000000000, .cells 47 [.d (.sl tInst iL), .d (.sl Ty.str iN), .row 1000000000001, .row 1000000000002, .d (.v (.int .i64 x1)), .d (.v (.int .i64 x2)), .d (.v (.int .i64 x3)), .row 1000000000003, .row 1000000000004, .row 1000000000005, .d (.sl tEv tl), .d (.v (.int .i64 te)), .d (.v (.int .u16 tc))]), (1000000000001, .row tEnt 30 t), (1000000000002, .row tI 3 ar), (1000000000003, .row tB 35 fs), (1000000000004, .row tB 35 fa), (1000000000005, .row Ty.bool 4 ff)]⟩))))))))))))))))))) (by kernel_rfl) ?_
  repeat' first | with_reducible refine Gives.lneed (b := true) rfl ?_ | (with_reducible refine Gives.lnd ?_ ?_; focus omega)
  refine .lite (fun h5 => ?_) (fun h5 => ?_)
  · rw [if_pos (by have := bne_iff_ne.1 h5; omega)]
    exact Gives.of_eq (t' := .ret (rB false, stC ((iL, iN), (t, ar, x1, x2, x3), (fs, fa, ff), (tl, te, tc)))) (by kernel_rfl) (.refl _)
  have h5 : r.length = (filesK 0 t).length + ar.length := by have := bne_eq_false_iff_eq.1 h5; omega
  rw [if_neg (by omega)]
  refine Gives.goto rfl (Gives.seq (by kernel_rfl) ?_)
  have hi : idxIn t.length (filesK 0 t) = true := List.all_eq_true.2 fun i hi => decide_eq_true (by have := filesK_at t 0 (by omega) i hi; omega)
  refine Gives.run (t' := .need true (.need (decide ((List.length t) ≤ 1000000)) (.need (decide (((((List.length (filesK (0 : Int) t)) : Nat) : Int) = (((List.length (filesK (0 : Int) t)) : Nat) : Int)) ∧ (((((List.length (filesK (0 : Int) t)) : Nat) : Int) ≤ (1000000 : Int)) ∧ (((0 : Int) ≤ (0 : Int)) ∧ (((0 : Int) ≤ (((List.length (filesK (0 : Int) t)) : Nat) : Int)) ∧ (((idxIn (List.length t) (filesK (0 : Int) t)) = true) ∧ (((((List.length (filesK (0 : Int) t)) : Nat) : Int) - (0 : Int) : Int) ≤ (((List.length r) : Nat) : Int)))))))) (.ret (.nx, ⟨90, [(0, .e (.c (.np 1000000000000 2))), (1, rL tU (List.drop (Int.toNat ((((List.length (filesK (0 : Int) t)) : Nat) : Int) - (0 : Int) : Int)) r)), (100000, .e (.c (.np 1000000000000 0))), (100001, .e (.c (.row 1000000000001))), (100002, .e (.c (.row 1000000000002))), (100003, .e (.c (.row 1000000000003))), (100004, .e (.c (.row 1000000000004))), (100005, .e (.c (.row 1000000000005)))], [(1000000000000, .cells 47 [.d (.sl tInst (((withTree (imgO ((iL, (iN, (Unit.unit, (Unit.unit, (x1, (x2, (x3, (Unit.unit, (Unit.unit, (Unit.unit, (tl, (te, (tc, Unit.unit))))))))))))), (t, (ar, (fs, (fa, (ff, Unit.unit))))))) (setAt t (List.drop 0 (filesK (0 : Int) t)) r))).1).1), .d (.sl Ty.str (((withTree (imgO ((iL, (iN, (Unit.unit, (Unit.unit, (x1, (x2, (x3, (Unit.unit, (Unit.unit, (Unit.unit, (tl, (te, (tc, Unit.unit))))))))))))), (t, (ar, (fs, (fa, (ff, Unit.unit))))))) (setAt t (List.drop 0 (filesK (0 : Int) t)) r))).1).2), .row 1000000000001, .row 1000000000002, .d (.v (.int .i64 ((((((withTree (imgO ((iL, (iN, (Unit.unit, (Unit.unit, (x1, (x2, (x3, (Unit.unit, (Unit.unit, (Unit.unit, (tl, (te, (tc, Unit.unit))))))))))))), (t, (ar, (fs, (fa, (ff, Unit.unit))))))) (setAt t (List.drop 0 (filesK (0 : Int) t)) r))).2).1).2).2).1)), .d (.v (.int .i64 (((((((withTree (imgO ((iL, (iN, (Unit.unit, (Unit.unit, (x1, (x2, (x3, (Unit.unit, (Unit.unit, (Unit.unit, (tl, (te, (tc, Unit.unit))))))))))))), (t, (ar, (fs, (fa, (ff, Unit.unit))))))) (setAt t (List.drop 0 (filesK (0 : Int) t)) r))).2).1).2).2).2).1)), .d (.v (.int .i64 (((((((withTree (imgO ((iL, (iN, (Unit.unit, (Unit.unit, (x1, (x2, (x3, (Unit.unit, (Unit.unit, (Unit.unit, (tl, (te, (tc, Unit.unit))))))))))))), (t, (ar, (fs, (fa, (ff, Unit.unit))))))) (setAt t (List.drop 0 (filesK (0 : Int) t)) r))).2).1).2).2).2).2)), .row 1000000000003, .row 1000000000004, .row 1000000000005, .d (.sl tEv (((((withTree (imgO ((iL, (iN, (Unit.unit, (Unit.unit, (x1, (x2, (x3, (Unit.unit, (Unit.unit, (Unit.unit, (tl, (te, (tc, Unit.unit))))))))))))), (t, (ar, (fs, (fa, (ff, Unit.unit))))))) (setAt t (List.drop 0 (filesK (0 : Int) t)) r))).2).2).2).1), .d (.v (.int .i64 ((((((withTree (imgO ((iL, (iN, (Unit.unit, (Unit.unit, (x1, (x2, (x3, (Unit.unit, (Unit.unit, (Unit.unit, (tl, (te, (tc, Unit.unit))))))))))))), (t, (ar, (fs, (fa, (ff, Unit.unit))))))) (setAt t (List.drop 0 (filesK (0 : Int) t)) r))).2).2).2).2).1)), .d (.v (.int .u16 ((((((withTree (imgO ((iL, (iN, (Unit.unit, (Unit.unit, (x1, (x2, (x3, (Unit.unit, (Unit.unit, (Unit.unit, (tl, (te, (tc, Unit.unit))))))))))))), (t, (ar, (fs, (fa, (ff, Unit.unit))))))) (setAt t (List.drop 0 (filesK (0 : Int) t)) r))).2).2).2).2).2))]), (1000000000001, .row tEnt 30 ((((withTree (imgO ((iL, (iN, (Unit.unit, (Unit.unit, (x1, (x2, (x3, (Unit.unit, (Unit.unit, (Unit.unit, (tl, (te, (tc, Unit.unit))))))))))))), (t, (ar, (fs, (fa, (ff, Unit.unit))))))) (setAt t (List.drop 0 (filesK (0 : Int) t)) r))).2).1).1), (1000000000002, .row tI 3 (((((withTree (imgO ((iL, (iN, (Unit.unit, (Unit.unit, (x1, (x2, (x3, (Unit.unit, (Unit.unit, (Unit.unit, (tl, (te, (tc, Unit.unit))))))))))))), (t, (ar, (fs, (fa, (ff, Unit.unit))))))) (setAt t (List.drop 0 (filesK (0 : Int) t)) r))).2).1).2).1), (1000000000003, .row tB 35 (((((withTree (imgO ((iL, (iN, (Unit.unit, (Unit.unit, (x1, (x2, (x3, (Unit.unit, (Unit.unit, (Unit.unit, (tl, (te, (tc, Unit.unit))))))))))))), (t, (ar, (fs, (fa, (ff, Unit.unit))))))) (setAt t (List.drop 0 (filesK (0 : Int) t)) r))).2).2).1).1), (1000000000004, .row tB 35 ((((((withTree (imgO ((iL, (iN, (Unit.unit, (Unit.unit, (x1, (x2, (x3, (Unit.unit, (Unit.unit, (Unit.unit, (tl, (te, (tc, Unit.unit))))))))))))), (t, (ar, (fs, (fa, (ff, Unit.unit))))))) (setAt t (List.drop 0 (filesK (0 : Int) t)) r))).2).2).1).2).1), (1000000000005, .row Ty.bool 4 ((((((withTree (imgO ((iL, (iN, (Unit.unit, (Unit.unit, (x1, (x2, (x3, (Unit.unit, (Unit.unit, (Unit.unit, (tl, (te, (tc, Unit.unit))))))))))))), (t, (ar, (fs, (fa, (ff, Unit.unit))))))) (setAt t (List.drop 0 (filesK (0 : Int) t)) r))).2).2).1).2).2)]⟩))))) (by kernel_rfl) ?_
  refine .lneed rfl (.lnd h1 (.lnd ⟨rfl, by omega, by omega, by omega, hi, by omega⟩ ?_))
  have e0 : (((filesK 0 t).length : Int) - 0).toNat = (filesK 0 t).length := by omega
  refine Gives.goto (σ' := sC ((iL, iN), (setAt t (filesK 0 t) r, ar, x1, x2, x3), (fs, fa, ff), (tl, te, tc)) (r.drop (filesK 0 t).length) []) (by rw [e0]; rfl) ?_
  have hr2 : (r.drop (filesK 0 t).length).length = ar.length := by rw [List.length_drop]; omega
  generalize setAt t (filesK 0 t) r = t2
  generalize r.drop (filesK 0 t).length = r2 at hr2 ⊢
  refine Gives.seq (by kernel_rfl) ?_
  refine Gives.run (t' := .need (decide (((((List.length ar) : Nat) : Int) = (((List.length ar) : Nat) : Int)) ∧ (((((List.length ar) : Nat) : Int) ≤ (1000000 : Int)) ∧ (((0 : Int) ≤ (0 : Int)) ∧ (((0 : Int) ≤ (((List.length ar) : Nat) : Int)) ∧ ((List.length r2) = (List.length ar))))))) (.ret (.nx, ⟨90, [(100000, .e (.c (.np 1000000000000 0))), (100001, .e (.c (.row 1000000000001))), (100002, .e (.c (.row 1000000000002))), (100003, .e (.c (.row 1000000000003))), (100004, .e (.c (.row 1000000000004))), (100005, .e (.c (.row 1000000000005)))], [(1000000000000, .cells 47 [.d (.sl tInst (((withArgs (imgO ((iL, (iN, (Unit.unit, (Unit.unit, (x1, (x2, (x3, (Unit.unit, (Unit.unit, (Unit.unit, (tl, (te, (tc, Unit.unit))))))))))))), (t2, (ar, (fs, (fa, (ff, Unit.unit))))))) ((List.take 0 ar) ++ (List.map (IntKind.wrap IntKind.i64) (List.drop 0 r2))))).1).1), .d (.sl Ty.str (((withArgs (imgO ((iL, (iN, (Unit.unit, (Unit.unit, (x1, (x2, (x3, (Unit.unit, (Unit.unit, (Unit.unit, (tl, (te, (tc, Unit.unit))))))))))))), (t2, (ar, (fs, (fa, (ff, Unit.unit))))))) ((List.take 0 ar) ++ (List.map (IntKind.wrap IntKind.i64) (List.drop 0 r2))))).1).2), .row 1000000000001, .row 1000000000002, .d (.v (.int .i64 ((((((withArgs (imgO ((iL, (iN, (Unit.unit, (Unit.unit, (x1, (x2, (x3, (Unit.unit, (Unit.unit, (Unit.unit, (tl, (te, (tc, Unit.unit))))))))))))), (t2, (ar, (fs, (fa, (ff, Unit.unit))))))) ((List.take 0 ar) ++ (List.map (IntKind.wrap IntKind.i64) (List.drop 0 r2))))).2).1).2).2).1)), .d (.v (.int .i64 (((((((withArgs (imgO ((iL, (iN, (Unit.unit, (Unit.unit, (x1, (x2, (x3, (Unit.unit, (Unit.unit, (Unit.unit, (tl, (te, (tc, Unit.unit))))))))))))), (t2, (ar, (fs, (fa, (ff, Unit.unit))))))) ((List.take 0 ar) ++ (List.map (IntKind.wrap IntKind.i64) (List.drop 0 r2))))).2).1).2).2).2).1)), .d (.v (.int .i64 (((((((withArgs (imgO ((iL, (iN, (Unit.unit, (Unit.unit, (x1, (x2, (x3, (Unit.unit, (Unit.unit, (Unit.unit, (tl, (te, (tc, Unit.unit))))))))))))), (t2, (ar, (fs, (fa, (ff, Unit.unit))))))) ((List.take 0 ar) ++ (List.map (IntKind.wrap IntKind.i64) (List.drop 0 r2))))).2).1).2).2).2).2)), .row 1000000000003, .row 1000000000004, .row 1000000000005, .d (.sl tEv (((((withArgs (imgO ((iL, (iN, (Unit.unit, (Unit.unit, (x1, (x2, (x3, (Unit.unit, (Unit.unit, (Unit.unit, (tl, (te, (tc, Unit.unit))))))))))))), (t2, (ar, (fs, (fa, (ff, Unit.unit))))))) ((List.take 0 ar) ++ (List.map (IntKind.wrap IntKind.i64) (List.drop 0 r2))))).2).2).2).1), .d (.v (.int .i64 ((((((withArgs (imgO ((iL, (iN, (Unit.unit, (Unit.unit, (x1, (x2, (x3, (Unit.unit, (Unit.unit, (Unit.unit, (tl, (te, (tc, Unit.unit))))))))))))), (t2, (ar, (fs, (fa, (ff, Unit.unit))))))) ((List.take 0 ar) ++ (List.map (IntKind.wrap IntKind.i64) (List.drop 0 r2))))).2).2).2).2).1)), .d (.v (.int .u16 ((((((withArgs (imgO ((iL, (iN, (Unit.unit, (Unit.unit, (x1, (x2, (x3, (Unit.unit, (Unit.unit, (Unit.unit, (tl, (te, (tc, Unit.unit))))))))))))), (t2, (ar, (fs, (fa, (ff, Unit.unit))))))) ((List.take 0 ar) ++ (List.map (IntKind.wrap IntKind.i64) (List.drop 0 r2))))).2).2).2).2).2))]), (1000000000001, .row tEnt 30 ((((withArgs (imgO ((iL, (iN, (Unit.unit, (Unit.unit, (x1, (x2, (x3, (Unit.unit, (Unit.unit, (Unit.unit, (tl, (te, (tc, Unit.unit))))))))))))), (t2, (ar, (fs, (fa, (ff, Unit.unit))))))) ((List.take 0 ar) ++ (List.map (IntKind.wrap IntKind.i64) (List.drop 0 r2))))).2).1).1), (1000000000002, .row tI 3 (((((withArgs (imgO ((iL, (iN, (Unit.unit, (Unit.unit, (x1, (x2, (x3, (Unit.unit, (Unit.unit, (Unit.unit, (tl, (te, (tc, Unit.unit))))))))))))), (t2, (ar, (fs, (fa, (ff, Unit.unit))))))) ((List.take 0 ar) ++ (List.map (IntKind.wrap IntKind.i64) (List.drop 0 r2))))).2).1).2).1), (1000000000003, .row tB 35 (((((withArgs (imgO ((iL, (iN, (Unit.unit, (Unit.unit, (x1, (x2, (x3, (Unit.unit, (Unit.unit, (Unit.unit, (tl, (te, (tc, Unit.unit))))))))))))), (t2, (ar, (fs, (fa, (ff, Unit.unit))))))) ((List.take 0 ar) ++ (List.map (IntKind.wrap IntKind.i64) (List.drop 0 r2))))).2).2).1).1), (1000000000004, .row tB 35 ((((((withArgs (imgO ((iL, (iN, (Unit.unit, (Unit.unit, (x1, (x2, (x3, (Unit.unit, (Unit.unit, (Unit.unit, (tl, (te, (tc, Unit.unit))))))))))))), (t2, (ar, (fs, (fa, (ff, Unit.unit))))))) ((List.take 0 ar) ++ (List.map (IntKind.wrap IntKind.i64) (List.drop 0 r2))))).2).2).1).2).1), (1000000000005, .row Ty.bool 4 ((((((withArgs (imgO ((iL, (iN, (Unit.unit, (Unit.unit, (x1, (x2, (x3, (Unit.unit, (Unit.unit, (Unit.unit, (tl, (te, (tc, Unit.unit))))))))))))), (t2, (ar, (fs, (fa, (ff, Unit.unit))))))) ((List.take 0 ar) ++ (List.map (IntKind.wrap IntKind.i64) (List.drop 0 r2))))).2).2).1).2).2)]⟩))) (by kernel_rfl) ?_
  refine .lnd ⟨by omega, by omega, by omega, by omega, hr2⟩ (Gives.goto rfl ?_)
  exact Gives.of_eq (t' := .ret (rB true, stC ((iL, iN), (t2, r2.map (IntKind.wrap .i64), x1, x2, x3), (fs, fa, ff), (tl, te, tc)))) (by kernel_rfl) (.refl _)
end Go.Proofs.YtdngaaploooceaaDoor.Sy

/- Contracts: image.made. -/
set_option maxRecDepth 100000
namespace Go.Proofs.YtdngaaploooceaaDoor.Sy
open Go.RowKit Kit Go.Proofs
abbrev Acc : Type := List Ent × List Int × List (List Int) × List (List Int)
def addF (a : Acc) (f : File) : Acc :=
  if (cutP f.1 (bs "tree/")).2 then
    if f.2.1 then (a.1 ++ [((cutP f.1 (bs "tree/")).1, true, 0)], a.2.1, a.2.2.1, a.2.2.2)
    else (a.1 ++ [((cutP f.1 (bs "tree/")).1, false, 0)], a.2.1, a.2.2.1 ++ [f.2.2], a.2.2.2)
  else (a.1, a.2.1 ++ [0], a.2.2.1, a.2.2.2 ++ [f.2.2])
noncomputable def fn30 := mkFn Tryd.f15
noncomputable def C30 : Cx := ⟨T, FL, [(36, pReadCtr), (37, cutPCtr), (38, untrCtr)], [(39, unkCtr)], [FA]⟩
theorem C30_ok : CxOk Tryd.prog C30 := ⟨T_ok, FL_ok, .cons pRead_ok (.cons cutP_ok (.cons untr_ok (.nil _))), .cons unk_ok (.nil _)⟩
abbrev CB4 : Nat := 1000004000
def nr30 : List NR := [⟨CB4 + 2, tEnt, 30⟩, ⟨CB4 + 3, tI, 3⟩, ⟨CB4 + 7, tB, 35⟩, ⟨CB4 + 8, tB, 35⟩, ⟨CB4 + 9, .bool, 4⟩]
def q30a : Frm := ⟨143, [(0, .dat (.sl tFile)), (2, .np 2 0), (4, .np 4 0), (36, .dat (.sl tFile)), (37, .dat tI), (38, .dat tI)],
  [(2, .cells 47 [.nil, .nil, .nil, .nil, .dat tI, .dat tI, .dat tI, .nil, .nil, .nil, .nil, .dat tI, .dat (.int .u16)]),
   (4, .cells 47 [.dat (.sl tInst), .dat (.sl .str), .row (CB4 + 2), .row (CB4 + 3), .dat tI, .dat tI, .dat tI, .row (CB4 + 7), .row (CB4 + 8), .row (CB4 + 9), .nil, .dat tI, .dat (.int .u16)]),
   (CB4 + 2, .row tEnt 30), (CB4 + 3, .row tI 3), (CB4 + 7, .row tB 35), (CB4 + 8, .row tB 35), (CB4 + 9, .row .bool 4)]⟩
def q30x : Frm := ⟨143, [(0, .dat (.sl tFile)), (2, .np 2 0), (4, .np 4 0)],
  [(2, .cells 47 [.nil, .nil, .nil, .nil, .dat tI, .dat tI, .dat tI, .nil, .nil, .nil, .nil, .dat tI, .dat (.int .u16)]),
   (4, .cells 47 [.dat (.sl tInst), .dat (.sl .str), .row (CB4 + 2), .row (CB4 + 3), .dat tI, .dat tI, .dat tI, .row (CB4 + 7), .row (CB4 + 8), .row (CB4 + 9), .nil, .dat tI, .dat (.int .u16)]),
   (CB4 + 2, .row tEnt 30), (CB4 + 3, .row tI 3), (CB4 + 7, .row tB 35), (CB4 + 8, .row tB 35), (CB4 + 9, .row .bool 4)]⟩
def accOf (o : obV q30a.os) : Acc := (o.2.2.1, o.2.2.2.1, o.2.2.2.2.1, o.2.2.2.2.2.1)
def putAcc (o : obV q30a.os) (a : Acc) : obV q30x.os := (o.1, o.2.1, a.1, a.2.1, a.2.2.1, a.2.2.2, o.2.2.2.2.2.2.1, ())
def accLe (a : Acc) (k : Int) : Prop := (a.1.length : Int) ≤ k ∧ (a.2.1.length : Int) ≤ k ∧ (a.2.2.1.length : Int) ≤ k ∧ (a.2.2.2.length : Int) ≤ k
instance (a : Acc) (k : Int) : Decidable (accLe a k) := by unfold accLe; exact inferInstance
def R30a : q30a.V → Tr (Ex × St) := fun v =>
  .need (decide (v.1.2.2.2.2.1 = v.1.2.2.2.1.length ∧ v.1.2.2.2.2.1 ≤ 1000000 ∧ 0 ≤ v.1.2.2.2.2.2.1 ∧ v.1.2.2.2.2.2.1 ≤ v.1.2.2.2.2.1 ∧ accLe (accOf v.2) v.1.2.2.2.2.2.1 ∧ (v.1.2.2.2.1.all fun f : File => decide (f.1.size ≤ 1000000000)) = true))
    (.ret (.ex 0, q30x.st ((v.1.1, (), (), ()), putAcc v.2 ((v.1.2.2.2.1.drop v.1.2.2.2.2.2.1.toNat).foldl addF (accOf v.2)))))
def q30b : Frm := ⟨143, [(0, .dat (.sl tFile)), (2, .np 2 0), (4, .np 4 0), (106, .dat tB), (107, .dat tI), (108, .dat tI)],
  [(2, .cells 47 [.nil, .nil, .nil, .nil, .dat tI, .dat tI, .dat tI, .nil, .nil, .nil, .nil, .dat tI, .dat (.int .u16)]),
   (4, .cells 47 [.dat (.sl tInst), .dat (.sl .str), .row (CB4 + 2), .row (CB4 + 3), .dat tI, .dat tI, .dat tI, .row (CB4 + 7), .row (CB4 + 8), .row (CB4 + 9), .nil, .dat tI, .dat (.int .u16)]),
   (CB4 + 2, .row tEnt 30), (CB4 + 3, .row tI 3), (CB4 + 7, .row tB 35), (CB4 + 8, .row tB 35), (CB4 + 9, .row .bool 4)]⟩
def putFl (o : obV q30b.os) (l : List Bool) : obV q30x.os := (o.1, o.2.1, o.2.2.1, o.2.2.2.1, o.2.2.2.2.1, o.2.2.2.2.2.1, l, ())
def R30b : q30b.V → Tr (Ex × St) := fun v =>
  .need (decide (v.1.2.2.2.2.1 = v.1.2.2.2.1.length ∧ v.1.2.2.2.2.1 ≤ 1000000000 ∧ 0 ≤ v.1.2.2.2.2.2.1 ∧ v.1.2.2.2.2.2.1 ≤ v.1.2.2.2.2.1 ∧ (v.2.2.2.2.2.2.2.1.length : Int) ≤ v.1.2.2.2.2.2.1))
    (.ret (.ex 3, q30x.st ((v.1.1, (), (), ()), putFl v.2 (v.2.2.2.2.2.2.2.1 ++ (v.1.2.2.2.1.drop v.1.2.2.2.2.2.1.toNat).map fun x : Int => x == 1))))
noncomputable def lp30 : LP := [(0, sumP q30a R30a), (3, sumP q30b R30b)]
set_option maxHeartbeats 4000000 in
theorem lp30a_ok : SumOk 0 C30 nr30 lp30 (fn30.at 0) (sumP q30a R30a) := by
  refine .pat q30a R30a (fun v => (v.1.2.2.2.2.1 - v.1.2.2.2.2.2.1).toNat) ?_
  rintro ⟨⟨(l : List File), ⟨⟩, ⟨⟩, (L : List File), (n : Int), (k : Int), ⟨⟩⟩, ⟨zz, ⟨iL, iN, ⟨⟩, ⟨⟩, c1, c2, c3, ⟨⟩, ⟨⟩, ⟨⟩, ⟨⟩, te, tc, ⟨⟩⟩, (t : List Ent), (ar : List Int), (fs : List (List Int)), (fa : List (List Int)), (ff : List Bool), ⟨⟩⟩⟩ ih
  refine Gives.run (t' := .ite (decide (k < n)) (.need (inR k (List.length L)) (.need true (.need (decide (((ByteArray.size ((List.getD L (Int.toNat k) (ByteArray.empty, (false, ([] : List Int))))).1) ≤ 1000000000) ∧ ((ByteArray.size (ByteArray.mk (List.toArray [(116 : UInt8), (114 : UInt8), (101 : UInt8), (101 : UInt8), (47 : UInt8)]))) ≤ 1000000000))) (.ite ((cutP ((List.getD L (Int.toNat k) (ByteArray.empty, (false, ([] : List Int))))).1 (ByteArray.mk (List.toArray [(116 : UInt8), (114 : UInt8), (101 : UInt8), (101 : UInt8), (47 : UInt8)])))).2 (.ite (((List.getD L (Int.toNat k) (ByteArray.empty, (false, ([] : List Int))))).2).1 (.need true (.need (decide ((((List.length t) + (List.length [(((cutP ((List.getD L (Int.toNat k) (ByteArray.empty, (false, ([] : List Int))))).1 (ByteArray.mk (List.toArray [(116 : UInt8), (114 : UInt8), (101 : UInt8), (101 : UInt8), (47 : UInt8)])))).1, (true, (0 : Int)))]) : Nat) * (Lay.bytes L30) : Nat) ≤ 140737488355328)) (.need (decide (((-(9223372036854775808 : Int) : Int) ≤ (k + (1 : Int) : Int)) ∧ ((k + (1 : Int) : Int) ≤ (9223372036854775807 : Int)))) (.ret (.nx, ⟨143, [(0, rL tFile l), (2, .e (.c (.np 2 0))), (4, .e (.c (.np 4 0))), (36, rL tFile L), (37, rI n), (38, rI (k + (1 : Int) : Int))], [(2, .cells 47 [.nil, .nil, .nil, .nil, .d (.v (.int .i64 (((((zz).2).2).2).2).1)), .d (.v (.int .i64 ((((((zz).2).2).2).2).2).1)), .d (.v (.int .i64 (((((((zz).2).2).2).2).2).2).1)), .nil, .nil, .nil, .nil, .d (.v (.int .i64 ((((((((((((zz).2).2).2).2).2).2).2).2).2).2).2).1)), .d (.v (.int .u16 (((((((((((((zz).2).2).2).2).2).2).2).2).2).2).2).2).1))]), (4, .cells 47 [.d (.sl tInst iL), .d (.sl Ty.str iN), .row 76, .row 1000004003, .d (.v (.int .i64 c1)), .d (.v (.int .i64 c2)), .d (.v (.int .i64 c3)), .row 1000004007, .row 1000004008, .row 1000004009, .nil, .d (.v (.int .i64 te)), .d (.v (.int .u16 tc))]), (8, .cells 55 [.d (.v (.string ((List.getD L (Int.toNat k) (ByteArray.empty, (false, ([] : List Int))))).1)), .d (.v (.bool (((List.getD L (Int.toNat k) (ByteArray.empty, (false, ([] : List Int))))).2).1)), .d (.sl tU (((List.getD L (Int.toNat k) (ByteArray.empty, (false, ([] : List Int))))).2).2)]), (76, .row tEnt 30 (t ++ [(((cutP ((List.getD L (Int.toNat k) (ByteArray.empty, (false, ([] : List Int))))).1 (ByteArray.mk (List.toArray [(116 : UInt8), (114 : UInt8), (101 : UInt8), (101 : UInt8), (47 : UInt8)])))).1, (true, (0 : Int)))])), (1000004003, .row tI 3 ar), (1000004007, .row tB 35 fs), (1000004008, .row tB 35 fa), (1000004009, .row Ty.bool 4 ff)]⟩))))) (.ite ((cutP ((List.getD L (Int.toNat k) (ByteArray.empty, (false, ([] : List Int))))).1 (ByteArray.mk (List.toArray [(116 : UInt8), (114 : UInt8), (101 : UInt8), (101 : UInt8), (47 : UInt8)])))).2 (.need true (.need (decide ((((List.length t) + (List.length [(((cutP ((List.getD L (Int.toNat k) (ByteArray.empty, (false, ([] : List Int))))).1 (ByteArray.mk (List.toArray [(116 : UInt8), (114 : UInt8), (101 : UInt8), (101 : UInt8), (47 : UInt8)])))).1, (false, (0 : Int)))]) : Nat) * (Lay.bytes L30) : Nat) ≤ 140737488355328)) (.need true (.need (decide ((((List.length fs) + (List.length [(((List.getD L (Int.toNat k) (ByteArray.empty, (false, ([] : List Int))))).2).2]) : Nat) * (Lay.bytes L35) : Nat) ≤ 140737488355328)) (.need (decide (((-(9223372036854775808 : Int) : Int) ≤ (k + (1 : Int) : Int)) ∧ ((k + (1 : Int) : Int) ≤ (9223372036854775807 : Int)))) (.ret (.nx, ⟨143, [(0, rL tFile l), (2, .e (.c (.np 2 0))), (4, .e (.c (.np 4 0))), (36, rL tFile L), (37, rI n), (38, rI (k + (1 : Int) : Int))], [(2, .cells 47 [.nil, .nil, .nil, .nil, .d (.v (.int .i64 (((((zz).2).2).2).2).1)), .d (.v (.int .i64 ((((((zz).2).2).2).2).2).1)), .d (.v (.int .i64 (((((((zz).2).2).2).2).2).2).1)), .nil, .nil, .nil, .nil, .d (.v (.int .i64 ((((((((((((zz).2).2).2).2).2).2).2).2).2).2).2).1)), .d (.v (.int .u16 (((((((((((((zz).2).2).2).2).2).2).2).2).2).2).2).2).1))]), (4, .cells 47 [.d (.sl tInst iL), .d (.sl Ty.str iN), .row 87, .row 1000004003, .d (.v (.int .i64 c1)), .d (.v (.int .i64 c2)), .d (.v (.int .i64 c3)), .row 96, .row 1000004008, .row 1000004009, .nil, .d (.v (.int .i64 te)), .d (.v (.int .u16 tc))]), (8, .cells 55 [.d (.v (.string ((List.getD L (Int.toNat k) (ByteArray.empty, (false, ([] : List Int))))).1)), .d (.v (.bool (((List.getD L (Int.toNat k) (ByteArray.empty, (false, ([] : List Int))))).2).1)), .d (.sl tU (((List.getD L (Int.toNat k) (ByteArray.empty, (false, ([] : List Int))))).2).2)]), (87, .row tEnt 30 (t ++ [(((cutP ((List.getD L (Int.toNat k) (ByteArray.empty, (false, ([] : List Int))))).1 (ByteArray.mk (List.toArray [(116 : UInt8), (114 : UInt8), (101 : UInt8), (101 : UInt8), (47 : UInt8)])))).1, (false, (0 : Int)))])), (96, .row tB 35 (fs ++ [(((List.getD L (Int.toNat k) (ByteArray.empty, (false, ([] : List Int))))).2).2])), (1000004003, .row tI 3 ar), (1000004008, .row tB 35 fa), (1000004009, .row Ty.bool 4 ff)]⟩))))))) (.need true (.need (decide ((((List.length ar) + (List.length [(0 : Int)]) : Nat) * (Lay.bytes L3) : Nat) ≤ 140737488355328)) (.need true (.need (decide ((((List.length fa) + (List.length [(((List.getD L (Int.toNat k) (ByteArray.empty, (false, ([] : List Int))))).2).2]) : Nat) * (Lay.bytes L35) : Nat) ≤ 140737488355328)) (.need (decide (((-(9223372036854775808 : Int) : Int) ≤ (k + (1 : Int) : Int)) ∧ ((k + (1 : Int) : Int) ≤ (9223372036854775807 : Int)))) (.ret (.nx, ⟨143, [(0, rL tFile l), (2, .e (.c (.np 2 0))), (4, .e (.c (.np 4 0))), (36, rL tFile L), (37, rI n), (38, rI (k + (1 : Int) : Int))], [(2, .cells 47 [.nil, .nil, .nil, .nil, .d (.v (.int .i64 (((((zz).2).2).2).2).1)), .d (.v (.int .i64 ((((((zz).2).2).2).2).2).1)), .d (.v (.int .i64 (((((((zz).2).2).2).2).2).2).1)), .nil, .nil, .nil, .nil, .d (.v (.int .i64 ((((((((((((zz).2).2).2).2).2).2).2).2).2).2).2).1)), .d (.v (.int .u16 (((((((((((((zz).2).2).2).2).2).2).2).2).2).2).2).2).1))]), (4, .cells 47 [.d (.sl tInst iL), .d (.sl Ty.str iN), .row 1000004002, .row 52, .d (.v (.int .i64 c1)), .d (.v (.int .i64 c2)), .d (.v (.int .i64 c3)), .row 1000004007, .row 61, .row 1000004009, .nil, .d (.v (.int .i64 te)), .d (.v (.int .u16 tc))]), (8, .cells 55 [.d (.v (.string ((List.getD L (Int.toNat k) (ByteArray.empty, (false, ([] : List Int))))).1)), .d (.v (.bool (((List.getD L (Int.toNat k) (ByteArray.empty, (false, ([] : List Int))))).2).1)), .d (.sl tU (((List.getD L (Int.toNat k) (ByteArray.empty, (false, ([] : List Int))))).2).2)]), (52, .row tI 3 (ar ++ [(0 : Int)])), (61, .row tB 35 (fa ++ [(((List.getD L (Int.toNat k) (ByteArray.empty, (false, ([] : List Int))))).2).2])), (1000004002, .row tEnt 30 t), (1000004007, .row tB 35 fs), (1000004009, .row Ty.bool 4 ff)]⟩))))))))) (.ite ((cutP ((List.getD L (Int.toNat k) (ByteArray.empty, (false, ([] : List Int))))).1 (ByteArray.mk (List.toArray [(116 : UInt8), (114 : UInt8), (101 : UInt8), (101 : UInt8), (47 : UInt8)])))).2 (.need true (.need (decide ((((List.length t) + (List.length [(((cutP ((List.getD L (Int.toNat k) (ByteArray.empty, (false, ([] : List Int))))).1 (ByteArray.mk (List.toArray [(116 : UInt8), (114 : UInt8), (101 : UInt8), (101 : UInt8), (47 : UInt8)])))).1, (false, (0 : Int)))]) : Nat) * (Lay.bytes L30) : Nat) ≤ 140737488355328)) (.need true (.need (decide ((((List.length fs) + (List.length [(((List.getD L (Int.toNat k) (ByteArray.empty, (false, ([] : List Int))))).2).2]) : Nat) * (Lay.bytes L35) : Nat) ≤ 140737488355328)) (.need (decide (((-(9223372036854775808 : Int) : Int) ≤ (k + (1 : Int) : Int)) ∧ ((k + (1 : Int) : Int) ≤ (9223372036854775807 : Int)))) (.ret (.nx, ⟨143, [(0, rL tFile l), (2, .e (.c (.np 2 0))), (4, .e (.c (.np 4 0))), (36, rL tFile L), (37, rI n), (38, rI (k + (1 : Int) : Int))], [(2, .cells 47 [.nil, .nil, .nil, .nil, .d (.v (.int .i64 (((((zz).2).2).2).2).1)), .d (.v (.int .i64 ((((((zz).2).2).2).2).2).1)), .d (.v (.int .i64 (((((((zz).2).2).2).2).2).2).1)), .nil, .nil, .nil, .nil, .d (.v (.int .i64 ((((((((((((zz).2).2).2).2).2).2).2).2).2).2).2).1)), .d (.v (.int .u16 (((((((((((((zz).2).2).2).2).2).2).2).2).2).2).2).2).1))]), (4, .cells 47 [.d (.sl tInst iL), .d (.sl Ty.str iN), .row 87, .row 1000004003, .d (.v (.int .i64 c1)), .d (.v (.int .i64 c2)), .d (.v (.int .i64 c3)), .row 96, .row 1000004008, .row 1000004009, .nil, .d (.v (.int .i64 te)), .d (.v (.int .u16 tc))]), (8, .cells 55 [.d (.v (.string ((List.getD L (Int.toNat k) (ByteArray.empty, (false, ([] : List Int))))).1)), .d (.v (.bool (((List.getD L (Int.toNat k) (ByteArray.empty, (false, ([] : List Int))))).2).1)), .d (.sl tU (((List.getD L (Int.toNat k) (ByteArray.empty, (false, ([] : List Int))))).2).2)]), (87, .row tEnt 30 (t ++ [(((cutP ((List.getD L (Int.toNat k) (ByteArray.empty, (false, ([] : List Int))))).1 (ByteArray.mk (List.toArray [(116 : UInt8), (114 : UInt8), (101 : UInt8), (101 : UInt8), (47 : UInt8)])))).1, (false, (0 : Int)))])), (96, .row tB 35 (fs ++ [(((List.getD L (Int.toNat k) (ByteArray.empty, (false, ([] : List Int))))).2).2])), (1000004003, .row tI 3 ar), (1000004008, .row tB 35 fa), (1000004009, .row Ty.bool 4 ff)]⟩))))))) (.need true (.need (decide ((((List.length ar) + (List.length [(0 : Int)]) : Nat) * (Lay.bytes L3) : Nat) ≤ 140737488355328)) (.need true (.need (decide ((((List.length fa) + (List.length [(((List.getD L (Int.toNat k) (ByteArray.empty, (false, ([] : List Int))))).2).2]) : Nat) * (Lay.bytes L35) : Nat) ≤ 140737488355328)) (.need (decide (((-(9223372036854775808 : Int) : Int) ≤ (k + (1 : Int) : Int)) ∧ ((k + (1 : Int) : Int) ≤ (9223372036854775807 : Int)))) (.ret (.nx, ⟨143, [(0, rL tFile l), (2, .e (.c (.np 2 0))), (4, .e (.c (.np 4 0))), (36, rL tFile L), (37, rI n), (38, rI (k + (1 : Int) : Int))], [(2, .cells 47 [.nil, .nil, .nil, .nil, .d (.v (.int .i64 (((((zz).2).2).2).2).1)), .d (.v (.int .i64 ((((((zz).2).2).2).2).2).1)), .d (.v (.int .i64 (((((((zz).2).2).2).2).2).2).1)), .nil, .nil, .nil, .nil, .d (.v (.int .i64 ((((((((((((zz).2).2).2).2).2).2).2).2).2).2).2).1)), .d (.v (.int .u16 (((((((((((((zz).2).2).2).2).2).2).2).2).2).2).2).2).1))]), (4, .cells 47 [.d (.sl tInst iL), .d (.sl Ty.str iN), .row 1000004002, .row 52, .d (.v (.int .i64 c1)), .d (.v (.int .i64 c2)), .d (.v (.int .i64 c3)), .row 1000004007, .row 61, .row 1000004009, .nil, .d (.v (.int .i64 te)), .d (.v (.int .u16 tc))]), (8, .cells 55 [.d (.v (.string ((List.getD L (Int.toNat k) (ByteArray.empty, (false, ([] : List Int))))).1)), .d (.v (.bool (((List.getD L (Int.toNat k) (ByteArray.empty, (false, ([] : List Int))))).2).1)), .d (.sl tU (((List.getD L (Int.toNat k) (ByteArray.empty, (false, ([] : List Int))))).2).2)]), (52, .row tI 3 (ar ++ [(0 : Int)])), (61, .row tB 35 (fa ++ [(((List.getD L (Int.toNat k) (ByteArray.empty, (false, ([] : List Int))))).2).2])), (1000004002, .row tEnt 30 t), (1000004007, .row tB 35 fs), (1000004009, .row Ty.bool 4 ff)]⟩)))))))))))) (.ret (.ex 0, ⟨143, [(0, rL tFile l), (2, .e (.c (.np 2 0))), (4, .e (.c (.np 4 0)))], [(2, .cells 47 [.nil, .nil, .nil, .nil, .d (.v (.int .i64 (((((zz).2).2).2).2).1)), .d (.v (.int .i64 ((((((zz).2).2).2).2).2).1)), .d (.v (.int .i64 (((((((zz).2).2).2).2).2).2).1)), .nil, .nil, .nil, .nil, .d (.v (.int .i64 ((((((((((((zz).2).2).2).2).2).2).2).2).2).2).2).1)), .d (.v (.int .u16 (((((((((((((zz).2).2).2).2).2).2).2).2).2).2).2).2).1))]), (4, .cells 47 [.d (.sl tInst iL), .d (.sl Ty.str iN), .row 1000004002, .row 1000004003, .d (.v (.int .i64 c1)), .d (.v (.int .i64 c2)), .d (.v (.int .i64 c3)), .row 1000004007, .row 1000004008, .row 1000004009, .nil, .d (.v (.int .i64 te)), .d (.v (.int .u16 tc))]), (1000004002, .row tEnt 30 t), (1000004003, .row tI 3 ar), (1000004007, .row tB 35 fs), (1000004008, .row tB 35 fa), (1000004009, .row Ty.bool 4 ff)]⟩))) (by kernel_rfl) ?_
  refine .rnd fun ⟨h1, h2, h3, h4, ⟨h5, h6, h7, h8⟩, h9⟩ => ?_
  have h1 : n = L.length := h1
  have h2 : n ≤ 1000000 := h2
  have h3 : 0 ≤ k := h3
  have h4 : k ≤ n := h4
  have h5 : (t.length : Int) ≤ k := h5
  have h6 : (ar.length : Int) ≤ k := h6
  have h7 : (fs.length : Int) ≤ k := h7
  have h8 : (fa.length : Int) ≤ k := h8
  have h9 : (L.all fun f : File => decide (f.1.size ≤ 1000000000)) = true := h9
  show Gives _ (.ret (Ex.ex 0, q30x.st ((l, (), (), ()), (zz, (iL, iN, (), (), c1, c2, c3, (), (), (), (), te, tc, ()), ((L.drop k.toNat).foldl addF (t, ar, fs, fa)).1, ((L.drop k.toNat).foldl addF (t, ar, fs, fa)).2.1, ((L.drop k.toNat).foldl addF (t, ar, fs, fa)).2.2.1, ((L.drop k.toNat).foldl addF (t, ar, fs, fa)).2.2.2, ff, ()))))
  refine .lif (fun hk => ?_) (fun hk => ?_)
  · have e : (k + 1).toNat = k.toNat + 1 := by omega
    have hx := of_decide_eq_true (List.all_eq_true.1 h9 _ (List.getElem_mem (show k.toNat < L.length by omega)))
    rw [show L[k.toNat]'(by omega) = L.getD k.toNat (ByteArray.empty, false, []) by simp [List.getD_eq_getElem?_getD, List.getElem?_eq_getElem (show k.toNat < L.length by omega)]] at hx
    rw [drop_at L k.toNat (ByteArray.empty, false, []) (by omega)]
    refine .lneed (inR_of h3 (by omega)) ?_
    generalize L.getD k.toNat (ByteArray.empty, false, []) = x at hx ⊢
    obtain ⟨p, d, c⟩ := x
    have last : ∀ (σ : St) (a : Acc), addF (t, ar, fs, fa) (p, d, c) = a → accLe a (k + 1) → (fn30.at 0).h nr30 σ = q30a.st ((l, (), (), L, n, k + 1, ()), (zz, (iL, iN, (), (), c1, c2, c3, (), (), (), (), te, tc, ()), a.1, a.2.1, a.2.2.1, a.2.2.2, ff, ())) →
        Gives ((Tr.need (decide (((-9223372036854775808 : Int) ≤ k + 1) ∧ (k + 1 ≤ (9223372036854775807 : Int)))) (.ret (Ex.nx, σ))).bind (again (n - k).toNat ((fn30.at 0).f 0 C30 nr30 lp30) ((fn30.at 0).h nr30)))
        (.ret (Ex.ex 0, q30x.st ((l, (), (), ()), (zz, (iL, iN, (), (), c1, c2, c3, (), (), (), (), te, tc, ()), (((p, d, c) :: L.drop (k.toNat + 1)).foldl addF (t, ar, fs, fa)).1, (((p, d, c) :: L.drop (k.toNat + 1)).foldl addF (t, ar, fs, fa)).2.1, (((p, d, c) :: L.drop (k.toNat + 1)).foldl addF (t, ar, fs, fa)).2.2.1, (((p, d, c) :: L.drop (k.toNat + 1)).foldl addF (t, ar, fs, fa)).2.2.2, ff, ())))) := fun σ a ha hle hσ => by
      refine .lnd (by omega) (Gives.next hσ ((ih ((l, (), (), L, n, k + 1, ()), (zz, (iL, iN, (), (), c1, c2, c3, (), (), (), (), te, tc, ()), a.1, a.2.1, a.2.2.1, a.2.2.2, ff, ())) (by simp only; omega)).trans ?_))
      refine .nd ⟨h1, h2, by show 0 ≤ k + 1; omega, by show k + 1 ≤ n; omega, hle, h9⟩ ?_
      show Gives (.ret (Ex.ex 0, q30x.st ((l, (), (), ()), (zz, (iL, iN, (), (), c1, c2, c3, (), (), (), (), te, tc, ()), ((L.drop (k + 1).toNat).foldl addF a).1, ((L.drop (k + 1).toNat).foldl addF a).2.1, ((L.drop (k + 1).toNat).foldl addF a).2.2.1, ((L.drop (k + 1).toNat).foldl addF a).2.2.2, ff, ())))) _
      rw [List.foldl_cons, ha, e]
      exact .refl _
    have hpx : p.size ≤ 1000000000 ∧ (ByteArray.mk (List.toArray [(116 : UInt8), (114 : UInt8), (101 : UInt8), (101 : UInt8), (47 : UInt8)])).size ≤ 1000000000 := ⟨hx, by decide +kernel⟩
    refine .lneed rfl (.lnd hpx ?_)
    refine .lite (fun hc => ?_) (fun hc => ?_)
    · have hcc : (cutP p (bs "tree/")).2 = true := hc
      refine .lite (fun hd => ?_) (fun hd => ?_)
      · have hd : d = true := hd
        subst hd
        refine .lneed rfl (.lnd (by show (t.length + 1) * 32 ≤ _; omega) (last _ (t ++ [((cutP p (bs "tree/")).1, true, 0)], ar, fs, fa) ?_ ?_ ?_))
        · unfold addF; rw [if_pos hcc]; rfl
        · exact ⟨by show ((t ++ [_]).length : Int) ≤ _; rw [List.length_append]; simp; omega, by show (ar.length : Int) ≤ _; omega, by show (fs.length : Int) ≤ _; omega, by show (fa.length : Int) ≤ _; omega⟩
        · kernel_rfl
      · have hd : d = false := hd
        subst hd
        refine .lite (fun _ => ?_) (fun hc' => by rw [show (cutP p (bs "tree/")).2 = false from hc'] at hcc; cases hcc)
        refine .lneed rfl (.lnd (by show (t.length + 1) * 32 ≤ _; omega) (.lneed rfl (.lnd (by show (fs.length + 1) * 24 ≤ _; omega) (last _ (t ++ [((cutP p (bs "tree/")).1, false, 0)], ar, fs ++ [c], fa) ?_ ?_ ?_))))
        · unfold addF; rw [if_pos hcc]; rfl
        · exact ⟨by show ((t ++ [_]).length : Int) ≤ _; rw [List.length_append]; simp; omega, by show (ar.length : Int) ≤ _; omega, by show ((fs ++ [_]).length : Int) ≤ _; rw [List.length_append]; simp; omega, by show (fa.length : Int) ≤ _; omega⟩
        · kernel_rfl
    · have hcc : (cutP p (bs "tree/")).2 = false := hc
      refine .lite (fun hc' => by rw [show (cutP p (bs "tree/")).2 = true from hc'] at hcc; cases hcc) (fun _ => ?_)
      refine .lneed rfl (.lnd (by show (ar.length + 1) * 8 ≤ _; omega) (.lneed rfl (.lnd (by show (fa.length + 1) * 24 ≤ _; omega) (last _ (t, ar ++ [0], fs, fa ++ [c]) ?_ ?_ ?_))))
      · unfold addF; rw [if_neg (by rw [hcc]; exact Bool.false_ne_true)]
      · exact ⟨by show (t.length : Int) ≤ _; omega, by show ((ar ++ [_]).length : Int) ≤ _; rw [List.length_append]; simp; omega, by show (fs.length : Int) ≤ _; omega, by show ((fa ++ [_]).length : Int) ≤ _; rw [List.length_append]; simp; omega⟩
      · kernel_rfl
  · rw [List.drop_eq_nil_of_le (by omega)]
    exact .refl _
set_option maxHeartbeats 4000000 in
theorem lp30b_ok : SumOk 0 C30 nr30 lp30 (fn30.at 3) (sumP q30b R30b) := by
  refine .pat q30b R30b (fun v => (v.1.2.2.2.2.1 - v.1.2.2.2.2.2.1).toNat) ?_
  rintro ⟨⟨(l : List File), ⟨⟩, ⟨⟩, (L : List Int), (n : Int), (k : Int), ⟨⟩⟩, ⟨zz, ⟨iL, iN, ⟨⟩, ⟨⟩, c1, c2, c3, ⟨⟩, ⟨⟩, ⟨⟩, ⟨⟩, te, tc, ⟨⟩⟩, (t : List Ent), (ar : List Int), (fs : List (List Int)), (fa : List (List Int)), (ff : List Bool), ⟨⟩⟩⟩ ih
  refine Gives.run (t' := .ite (decide (k < n)) (.need (inR k (List.length L)) (.need true (.need (decide ((((List.length ff) + (List.length [((List.getD L (Int.toNat k) (0 : Int)) == (1 : Int))]) : Nat) * (Lay.bytes L4) : Nat) ≤ 140737488355328)) (.need (decide (((-(9223372036854775808 : Int) : Int) ≤ (k + (1 : Int) : Int)) ∧ ((k + (1 : Int) : Int) ≤ (9223372036854775807 : Int)))) (.ret (.nx, ⟨143, [(0, rL tFile l), (2, .e (.c (.np 2 0))), (4, .e (.c (.np 4 0))), (106, rL tU L), (107, rI n), (108, rI (k + (1 : Int) : Int))], [(2, .cells 47 [.nil, .nil, .nil, .nil, .d (.v (.int .i64 (((((zz).2).2).2).2).1)), .d (.v (.int .i64 ((((((zz).2).2).2).2).2).1)), .d (.v (.int .i64 (((((((zz).2).2).2).2).2).2).1)), .nil, .nil, .nil, .nil, .d (.v (.int .i64 ((((((((((((zz).2).2).2).2).2).2).2).2).2).2).2).1)), .d (.v (.int .u16 (((((((((((((zz).2).2).2).2).2).2).2).2).2).2).2).2).1))]), (4, .cells 47 [.d (.sl tInst iL), .d (.sl Ty.str iN), .row 1000004002, .row 1000004003, .d (.v (.int .i64 c1)), .d (.v (.int .i64 c2)), .d (.v (.int .i64 c3)), .row 1000004007, .row 1000004008, .row 118, .nil, .d (.v (.int .i64 te)), .d (.v (.int .u16 tc))]), (118, .row Ty.bool 4 (ff ++ [((List.getD L (Int.toNat k) (0 : Int)) == (1 : Int))])), (1000004002, .row tEnt 30 t), (1000004003, .row tI 3 ar), (1000004007, .row tB 35 fs), (1000004008, .row tB 35 fa)]⟩)))))) (.ret (.ex 3, ⟨143, [(0, rL tFile l), (2, .e (.c (.np 2 0))), (4, .e (.c (.np 4 0)))], [(2, .cells 47 [.nil, .nil, .nil, .nil, .d (.v (.int .i64 (((((zz).2).2).2).2).1)), .d (.v (.int .i64 ((((((zz).2).2).2).2).2).1)), .d (.v (.int .i64 (((((((zz).2).2).2).2).2).2).1)), .nil, .nil, .nil, .nil, .d (.v (.int .i64 ((((((((((((zz).2).2).2).2).2).2).2).2).2).2).2).1)), .d (.v (.int .u16 (((((((((((((zz).2).2).2).2).2).2).2).2).2).2).2).2).1))]), (4, .cells 47 [.d (.sl tInst iL), .d (.sl Ty.str iN), .row 1000004002, .row 1000004003, .d (.v (.int .i64 c1)), .d (.v (.int .i64 c2)), .d (.v (.int .i64 c3)), .row 1000004007, .row 1000004008, .row 1000004009, .nil, .d (.v (.int .i64 te)), .d (.v (.int .u16 tc))]), (1000004002, .row tEnt 30 t), (1000004003, .row tI 3 ar), (1000004007, .row tB 35 fs), (1000004008, .row tB 35 fa), (1000004009, .row Ty.bool 4 ff)]⟩))) (by kernel_rfl) ?_
  refine .rnd fun ⟨h1, h2, h3, h4, h5⟩ => ?_
  have h1 : n = L.length := h1
  have h2 : n ≤ 1000000000 := h2
  have h3 : 0 ≤ k := h3
  have h4 : k ≤ n := h4
  have h5 : (ff.length : Int) ≤ k := h5
  show Gives _ (.ret (Ex.ex 3, q30x.st ((l, (), (), ()), (zz, (iL, iN, (), (), c1, c2, c3, (), (), (), (), te, tc, ()), t, ar, fs, fa, ff ++ (L.drop k.toNat).map (fun x : Int => x == 1), ()))))
  refine .lif (fun hk => ?_) (fun hk => ?_)
  · have e : (k + 1).toNat = k.toNat + 1 := by omega
    rw [drop_at L k.toNat 0 (by omega)]
    refine .lneed (inR_of h3 (by omega)) ?_
    generalize L.getD k.toNat 0 = x
    refine .lneed rfl (.lnd (by show (ff.length + 1) * 1 ≤ _; omega) (.lnd (by omega) ?_))
    refine Gives.next (σ' := q30b.st ((l, (), (), L, n, k + 1, ()), (zz, (iL, iN, (), (), c1, c2, c3, (), (), (), (), te, tc, ()), t, ar, fs, fa, ff ++ [x == 1], ()))) (by kernel_rfl) ((ih ((l, (), (), L, n, k + 1, ()), (zz, (iL, iN, (), (), c1, c2, c3, (), (), (), (), te, tc, ()), t, ar, fs, fa, ff ++ [x == 1], ())) (by simp only; omega)).trans ?_)
    refine .nd ⟨h1, h2, by show 0 ≤ k + 1; omega, by show k + 1 ≤ n; omega, by show ((ff ++ [_]).length : Int) ≤ k + 1; rw [List.length_append]; simp; omega⟩ ?_
    show Gives (.ret (Ex.ex 3, q30x.st ((l, (), (), ()), (zz, (iL, iN, (), (), c1, c2, c3, (), (), (), (), te, tc, ()), t, ar, fs, fa, (ff ++ [x == 1]) ++ (L.drop (k + 1).toNat).map (fun x : Int => x == 1), ())))) _
    rw [e, List.map_cons, List.append_assoc]
    exact .refl _
  · rw [List.drop_eq_nil_of_le (by omega), List.map_nil, List.append_nil]
    exact .refl _
theorem lp30_ok : LpsOk 0 C30 nr30 lp30 fn30.loops := by
  refine .all (by kernel_rfl) ?_
  simp only [lp30, List.forall_mem_cons, List.not_mem_nil, false_imp_iff, implies_true, and_true]
  exact ⟨lp30a_ok, lp30b_ok⟩
end Go.Proofs.YtdngaaploooceaaDoor.Sy

/- Contracts: image.made. -/
set_option maxRecDepth 100000
namespace Go.Proofs.YtdngaaploooceaaDoor.Sy
open Go.RowKit Kit Go.Proofs
def zeroImg : Img := (([], []), ([], [], 0, 0, 0), ([], [], []), ([], 0, 0))
def dF : File := (ByteArray.empty, false, [])
def mids (l : List File) : List File := (l.take (l.length - 3)).drop 1
def accF (l : List File) : Acc := (mids l).foldl addF ([], [], [], [])
def unkOf (l : List File) : Bool × Cls := unkF ((accF l).1, (accF l).2.1, 0, 0, 0) (l.getD (l.length - 2) dF).2.2
def made2 (l : List File) : Img := (readP (l.getD 0 dF).2.2, (unkOf l).2, ((accF l).2.2.1, (accF l).2.2.2, (l.getD (l.length - 3) dF).2.2.map fun x : Int => x == 1), untraceF (l.getD (l.length - 1) dF).2.2)
def madeF (l : List File) : Bool × Img :=
  if l.length < 4 ∨ readE (l.getD 0 dF).2.2 ≠ 0 then (false, zeroImg) else ((unkOf l).1, made2 l)
def eImg (m : Img) : EV := .agg ((split tImg m).map .d)
def madeOk (l : List File) : Bool := decide (l.length ≤ 1000000) && l.all fun f => decide (f.1.size ≤ 1000000000) && u8s f.2.2 && decide (f.2.2.length ≤ 1000000000)
def madeCtr : Ctr := ctr (one (aVal (.sl tFile))) fun a => .need (madeOk a.1) (.ret (.tup [eImg (madeF a.1).2, eB (madeF a.1).1], []))
def zeroA : EV := .agg [.nil, .nil, .nil, .nil, .d (.v (.int .i64 0)), .d (.v (.int .i64 0)), .d (.v (.int .i64 0)), .nil, .nil, .nil, .nil, .d (.v (.int .i64 0)), .d (.v (.int .u16 0))]
theorem madeOk_at {l : List File} (h : madeOk l = true) (k : Nat) : (l.getD k dF).1.size ≤ 1000000000 ∧ u8s (l.getD k dF).2.2 = true ∧ (l.getD k dF).2.2.length ≤ 1000000000 := by
  simp only [madeOk, Bool.and_eq_true] at h
  by_cases hk : k < l.length
  · have := List.all_eq_true.1 h.2 _ (List.getElem_mem hk)
    rw [show l[k] = l.getD k dF by simp [List.getD_eq_getElem?_getD, List.getElem?_eq_getElem hk]] at this
    simp only [Bool.and_eq_true, decide_eq_true_eq] at this
    exact ⟨this.1.1, this.1.2, this.2⟩
  · rw [List.getD_eq_getElem?_getD, List.getElem?_eq_none (by omega)]
    exact ⟨Nat.zero_le _, rfl, Nat.zero_le _⟩
def z13 : cellV [.nil, .nil, .nil, .nil, .dat tI, .dat tI, .dat tI, .nil, .nil, .nil, .nil, .dat tI, .dat (.int .u16)] := ((), (), (), (), (0 : Int), (0 : Int), (0 : Int), (), (), (), (), (0 : Int), (0 : Int), ())
theorem addF_len (f : File) (a : Acc) : (addF a f).1.length ≤ a.1.length + 1 ∧ (addF a f).2.1.length ≤ a.2.1.length + 1 := by
  unfold addF
  split
  · split <;> simp
  · simp
theorem foldF_len : ∀ (L : List File) (a : Acc), (L.foldl addF a).1.length ≤ a.1.length + L.length ∧ (L.foldl addF a).2.1.length ≤ a.2.1.length + L.length
  | [], a => ⟨Nat.le_refl _, Nat.le_refl _⟩
  | f :: r, a => by
    have h1 := addF_len f a
    have h2 := foldF_len r (addF a f)
    rw [List.foldl_cons, List.length_cons]
    omega
theorem accF_len (l : List File) : (accF l).1.length ≤ l.length ∧ (accF l).2.1.length ≤ l.length := by
  have h := foldF_len (mids l) ([], [], [], [])
  have hm : (mids l).length ≤ l.length := by unfold mids; rw [List.length_drop, List.length_take]; omega
  unfold accF
  simp only [List.length_nil] at h
  omega
def zC : List CV := [.nil, .nil, .nil, .nil, .d (.v (.int .i64 0)), .d (.v (.int .i64 0)), .d (.v (.int .i64 0)), .nil, .nil, .nil, .nil, .d (.v (.int .i64 0)), .d (.v (.int .u16 0))]
set_option maxHeartbeats 8000000 in
theorem made0_ok : CtrOk Tryd.prog 15 (ctr (one (aVal (.sl tFile))) fun a => .need (madeOk a.1) (.ite (decide (a.1.length < 4 ∨ readE (a.1.getD 0 dF).2.2 ≠ 0)) (.ret (.tup [zeroA, eB false], [])) (.ret (.tup [eImg (made2 a.1), eB (unkOf a.1).1], [])))) := by
  refine .mk C30_ok mixed (q := fn30) (.of Tryd.func15 (by kernel_rfl)) lp30_ok (by decide) ?_
  rintro ⟨(l : List File), ⟨⟩⟩ -
  show Gives _ (.need (madeOk l) (.ite (decide (l.length < 4 ∨ readE (l.getD 0 dF).2.2 ≠ 0)) (.ret (SV.tup [zeroA, eB false], (⟨0, [], []⟩ : St))) (.ret (SV.tup [eImg (made2 l), eB (unkOf l).1], (⟨0, [], []⟩ : St)))))
  refine .rneed fun hok => ?_
  have hl : l.length ≤ 1000000 := by simp only [madeOk, Bool.and_eq_true, decide_eq_true_eq] at hok; exact hok.1
  refine Gives.seq (by kernel_rfl) ?_
  refine Gives.run (t' := .ret (.nx, ⟨143, [(0, rL tFile l), (2, .e (.c (.np 2 0)))], [(2, .cells 47 [.nil, .nil, .nil, .nil, .d (.v (.int .i64 (0 : Int))), .d (.v (.int .i64 (0 : Int))), .d (.v (.int .i64 (0 : Int))), .nil, .nil, .nil, .nil, .d (.v (.int .i64 (0 : Int))), .d (.v (.int .u16 (0 : Int)))])]⟩)) (by kernel_rfl) ?_
  refine Gives.goto rfl (Gives.seq (by kernel_rfl) ?_)
  refine Gives.run (t' := .ret (.nx, ⟨143, [(0, rL tFile l), (2, .e (.c (.np 2 0))), (4, .e (.c (.np 4 0)))], [(2, .cells 47 [.nil, .nil, .nil, .nil, .d (.v (.int .i64 (0 : Int))), .d (.v (.int .i64 (0 : Int))), .d (.v (.int .i64 (0 : Int))), .nil, .nil, .nil, .nil, .d (.v (.int .i64 (0 : Int))), .d (.v (.int .u16 (0 : Int)))]), (4, .cells 47 [.nil, .nil, .nil, .nil, .d (.v (.int .i64 (0 : Int))), .d (.v (.int .i64 (0 : Int))), .d (.v (.int .i64 (0 : Int))), .nil, .nil, .nil, .nil, .d (.v (.int .i64 (0 : Int))), .d (.v (.int .u16 (0 : Int)))])]⟩)) (by kernel_rfl) ?_
  refine Gives.goto rfl (Gives.seq (by kernel_rfl) ?_)
  refine Gives.run (t' := .ite (decide ((((List.length l) : Nat) : Int) < (4 : Int))) (.need true (.ret (.rt, ⟨143, [(2, .e (.c (.np 2 0))), (3, .e (.c (.kb false)))], [(2, .cells 47 [.nil, .nil, .nil, .nil, .d (.v (.int .i64 (0 : Int))), .d (.v (.int .i64 (0 : Int))), .d (.v (.int .i64 (0 : Int))), .nil, .nil, .nil, .nil, .d (.v (.int .i64 (0 : Int))), .d (.v (.int .u16 (0 : Int)))])]⟩))) (.ret (.nx, ⟨143, [(0, rL tFile l), (2, .e (.c (.np 2 0))), (4, .e (.c (.np 4 0))), (17, .e (.c (.kb false)))], [(2, .cells 47 [.nil, .nil, .nil, .nil, .d (.v (.int .i64 (0 : Int))), .d (.v (.int .i64 (0 : Int))), .d (.v (.int .i64 (0 : Int))), .nil, .nil, .nil, .nil, .d (.v (.int .i64 (0 : Int))), .d (.v (.int .u16 (0 : Int)))]), (4, .cells 47 [.nil, .nil, .nil, .nil, .d (.v (.int .i64 (0 : Int))), .d (.v (.int .i64 (0 : Int))), .d (.v (.int .i64 (0 : Int))), .nil, .nil, .nil, .nil, .d (.v (.int .i64 (0 : Int))), .d (.v (.int .u16 (0 : Int)))])]⟩))) (by kernel_rfl) ?_
  have hbad : ∀ {b : Bool} {X : Tr (SV × St)}, b = true → Gives ((Tr.ret (Ex.rt, (⟨143, [(2, .e (.c (.np 2 0))), (3, .e (.c (.kb false)))], [(2, .cells 47 zC)]⟩ : St))).bind (fin C30 fn30.rs)) (.ite b (.ret (SV.tup [zeroA, eB false], (⟨0, [], []⟩ : St))) X) := fun hb => by
    exact Gives.of_eq (t' := .need true (.ret (SV.tup [zeroA, eB false], (⟨0, [], []⟩ : St)))) (by kernel_rfl) (.need rfl (.rtt hb (.refl _)))
  refine .lif (fun h4 => ?_) (fun h4 => ?_)
  · exact .lneed rfl (hbad (decide_eq_true (.inl (by omega))))
  have h0 := madeOk_at hok 0
  refine Gives.goto rfl (Gives.seq (by kernel_rfl) ?_)
  refine Gives.run (t' := .need (inR (0 : Int) (List.length l)) (.need (decide ((u8s (((List.getD l 0 (ByteArray.empty, (false, ([] : List Int))))).2).2) = true)) (.ret (.nx, ⟨143, [(0, rL tFile l), (2, .e (.c (.np 2 0))), (4, .e (.c (.np 4 0))), (5, .e (.c (.np 5 0))), (6, rI (readE (((List.getD l 0 (ByteArray.empty, (false, ([] : List Int))))).2).2))], [(2, .cells 47 [.nil, .nil, .nil, .nil, .d (.v (.int .i64 (0 : Int))), .d (.v (.int .i64 (0 : Int))), .d (.v (.int .i64 (0 : Int))), .nil, .nil, .nil, .nil, .d (.v (.int .i64 (0 : Int))), .d (.v (.int .u16 (0 : Int)))]), (4, .cells 47 [.nil, .nil, .nil, .nil, .d (.v (.int .i64 (0 : Int))), .d (.v (.int .i64 (0 : Int))), .d (.v (.int .i64 (0 : Int))), .nil, .nil, .nil, .nil, .d (.v (.int .i64 (0 : Int))), .d (.v (.int .u16 (0 : Int)))]), (5, .cells 28 [.d (.sl tInst ((readP (((List.getD l 0 (ByteArray.empty, (false, ([] : List Int))))).2).2)).1), .d (.sl Ty.str ((readP (((List.getD l 0 (ByteArray.empty, (false, ([] : List Int))))).2).2)).2)])]⟩)))) (by kernel_rfl) ?_
  refine .lneed (inR_of (by omega) (by omega)) (.lnd h0.2.1 (Gives.goto rfl (Gives.seq (by kernel_rfl) ?_)))
  refine Gives.run (t' := .ite ((readE (((List.getD l 0 (ByteArray.empty, (false, ([] : List Int))))).2).2) != (0 : Int)) (.need true (.ret (.rt, ⟨143, [(2, .e (.c (.np 2 0))), (3, .e (.c (.kb false)))], [(2, .cells 47 [.nil, .nil, .nil, .nil, .d (.v (.int .i64 (0 : Int))), .d (.v (.int .i64 (0 : Int))), .d (.v (.int .i64 (0 : Int))), .nil, .nil, .nil, .nil, .d (.v (.int .i64 (0 : Int))), .d (.v (.int .u16 (0 : Int)))])]⟩))) (.ret (.nx, ⟨143, [(0, rL tFile l), (2, .e (.c (.np 2 0))), (4, .e (.c (.np 4 0))), (5, .e (.c (.np 5 0))), (28, .e (.c (.kb false)))], [(2, .cells 47 [.nil, .nil, .nil, .nil, .d (.v (.int .i64 (0 : Int))), .d (.v (.int .i64 (0 : Int))), .d (.v (.int .i64 (0 : Int))), .nil, .nil, .nil, .nil, .d (.v (.int .i64 (0 : Int))), .d (.v (.int .u16 (0 : Int)))]), (4, .cells 47 [.nil, .nil, .nil, .nil, .d (.v (.int .i64 (0 : Int))), .d (.v (.int .i64 (0 : Int))), .d (.v (.int .i64 (0 : Int))), .nil, .nil, .nil, .nil, .d (.v (.int .i64 (0 : Int))), .d (.v (.int .u16 (0 : Int)))]), (5, .cells 28 [.d (.sl tInst ((readP (((List.getD l 0 (ByteArray.empty, (false, ([] : List Int))))).2).2)).1), .d (.sl Ty.str ((readP (((List.getD l 0 (ByteArray.empty, (false, ([] : List Int))))).2).2)).2)])]⟩))) (by kernel_rfl) ?_
  refine .lite (fun h5 => ?_) (fun h5 => ?_)
  · exact .lneed rfl (hbad (decide_eq_true (.inr (bne_iff_ne.1 h5))))
  have h5 : readE (l.getD 0 dF).2.2 = 0 := by have := bne_eq_false_iff_eq.1 h5; exact this
  refine Gives.goto rfl (Gives.seq (by kernel_rfl) ?_)
  refine Gives.run (t' := .need true (.ret (.nx, ⟨143, [(0, rL tFile l), (2, .e (.c (.np 2 0))), (4, .e (.c (.np 4 0)))], [(2, .cells 47 [.nil, .nil, .nil, .nil, .d (.v (.int .i64 (0 : Int))), .d (.v (.int .i64 (0 : Int))), .d (.v (.int .i64 (0 : Int))), .nil, .nil, .nil, .nil, .d (.v (.int .i64 (0 : Int))), .d (.v (.int .u16 (0 : Int)))]), (4, .cells 47 [.d (.sl tInst ((readP (((List.getD l 0 (ByteArray.empty, (false, ([] : List Int))))).2).2)).1), .d (.sl Ty.str ((readP (((List.getD l 0 (ByteArray.empty, (false, ([] : List Int))))).2).2)).2), .nil, .nil, .d (.v (.int .i64 (0 : Int))), .d (.v (.int .i64 (0 : Int))), .d (.v (.int .i64 (0 : Int))), .nil, .nil, .nil, .nil, .d (.v (.int .i64 (0 : Int))), .d (.v (.int .u16 (0 : Int)))]), (5, .cells 28 [.d (.sl tInst ((readP (((List.getD l 0 (ByteArray.empty, (false, ([] : List Int))))).2).2)).1), .d (.sl Ty.str ((readP (((List.getD l 0 (ByteArray.empty, (false, ([] : List Int))))).2).2)).2)])]⟩))) (by kernel_rfl) ?_
  have hd : ∀ {X : Tr (SV × St)} {Y : Tr (SV × St)} {t : Tr (SV × St)}, Gives t Y → Gives t (.ite (decide (l.length < 4 ∨ readE (l.getD 0 dF).2.2 ≠ 0)) X Y) := fun h => .rff (decide_eq_false (by rw [not_or]; exact ⟨by omega, fun h => h h5⟩)) h
  refine .lneed rfl (hd ?_)
  clear hd hbad
  unfold made2
  show Gives ((Tr.ret (Ex.nx, (⟨143, [(0, rL tFile l), (2, .e (.c (.np 2 0))), (4, .e (.c (.np 4 0)))], [(2, .cells 47 zC), (4, .cells 47 [.d (.sl tInst (readP (l.getD 0 dF).2.2).1), .d (.sl .str (readP (l.getD 0 dF).2.2).2), .nil, .nil, .d (.v (.int .i64 0)), .d (.v (.int .i64 0)), .d (.v (.int .i64 0)), .nil, .nil, .nil, .nil, .d (.v (.int .i64 0)), .d (.v (.int .u16 0))]), (5, .cells 28 [.d (.sl tInst (readP (l.getD 0 dF).2.2).1), .d (.sl .str (readP (l.getD 0 dF).2.2).2)])]⟩ : St))).bind _) _
  generalize readP (l.getD 0 dF).2.2 = P
  obtain ⟨pL, pN⟩ := P
  refine Gives.goto rfl (Gives.seq (by kernel_rfl) ?_)
  refine Gives.run (t' := .need (decide (((-(9223372036854775808 : Int) : Int) ≤ ((((List.length l) : Nat) : Int) - (3 : Int) : Int)) ∧ (((((List.length l) : Nat) : Int) - (3 : Int) : Int) ≤ (9223372036854775807 : Int)))) (.need (okB (1 : Int) ((((List.length l) : Nat) : Int) - (3 : Int) : Int) (List.length l)) (.need (decide (((((List.length (List.drop 1 (List.take (Int.toNat ((((List.length l) : Nat) : Int) - (3 : Int) : Int)) l))) : Nat) : Int) = (((List.length (List.drop 1 (List.take (Int.toNat ((((List.length l) : Nat) : Int) - (3 : Int) : Int)) l))) : Nat) : Int)) ∧ (((((List.length (List.drop 1 (List.take (Int.toNat ((((List.length l) : Nat) : Int) - (3 : Int) : Int)) l))) : Nat) : Int) ≤ (1000000 : Int)) ∧ (((0 : Int) ≤ (0 : Int)) ∧ (((0 : Int) ≤ (((List.length (List.drop 1 (List.take (Int.toNat ((((List.length l) : Nat) : Int) - (3 : Int) : Int)) l))) : Nat) : Int)) ∧ ((accLe (accOf ((Unit.unit, (Unit.unit, (Unit.unit, (Unit.unit, ((0 : Int), ((0 : Int), ((0 : Int), (Unit.unit, (Unit.unit, (Unit.unit, (Unit.unit, ((0 : Int), ((0 : Int), Unit.unit))))))))))))), ((pL, (pN, (Unit.unit, (Unit.unit, ((0 : Int), ((0 : Int), ((0 : Int), (Unit.unit, (Unit.unit, (Unit.unit, (Unit.unit, ((0 : Int), ((0 : Int), Unit.unit))))))))))))), (([] : List (Prod ByteArray (Prod (Ty.El Ty.bool) (Ty.El tI)))), (([] : List Int), (([] : List (List Int)), (([] : List (List Int)), (([] : List Bool), Unit.unit)))))))) (0 : Int)) ∧ ((List.all (List.drop 1 (List.take (Int.toNat ((((List.length l) : Nat) : Int) - (3 : Int) : Int)) l)) (fun f => (decide ((ByteArray.size (f).1) ≤ 1000000000)))) = true))))))) (.ret (.nx, ⟨143, [(0, rL tFile l), (2, .e (.c (.np 2 0))), (4, .e (.c (.np 4 0)))], [(2, .cells 47 [.nil, .nil, .nil, .nil, .d (.v (.int .i64 (((((((putAcc ((Unit.unit, (Unit.unit, (Unit.unit, (Unit.unit, ((0 : Int), ((0 : Int), ((0 : Int), (Unit.unit, (Unit.unit, (Unit.unit, (Unit.unit, ((0 : Int), ((0 : Int), Unit.unit))))))))))))), ((pL, (pN, (Unit.unit, (Unit.unit, ((0 : Int), ((0 : Int), ((0 : Int), (Unit.unit, (Unit.unit, (Unit.unit, (Unit.unit, ((0 : Int), ((0 : Int), Unit.unit))))))))))))), (([] : List (Prod ByteArray (Prod Bool Int))), (([] : List Int), (([] : List (List Int)), (([] : List (List Int)), (([] : List Bool), Unit.unit))))))) (List.foldl addF (accOf ((Unit.unit, (Unit.unit, (Unit.unit, (Unit.unit, ((0 : Int), ((0 : Int), ((0 : Int), (Unit.unit, (Unit.unit, (Unit.unit, (Unit.unit, ((0 : Int), ((0 : Int), Unit.unit))))))))))))), ((pL, (pN, (Unit.unit, (Unit.unit, ((0 : Int), ((0 : Int), ((0 : Int), (Unit.unit, (Unit.unit, (Unit.unit, (Unit.unit, ((0 : Int), ((0 : Int), Unit.unit))))))))))))), (([] : List (Prod ByteArray (Prod Bool Int))), (([] : List Int), (([] : List (List Int)), (([] : List (List Int)), (([] : List Bool), Unit.unit)))))))) (List.drop 0 (List.drop 1 (List.take (Int.toNat ((((List.length l) : Nat) : Int) - (3 : Int) : Int)) l)))))).1).2).2).2).2).1)), .d (.v (.int .i64 ((((((((putAcc ((Unit.unit, (Unit.unit, (Unit.unit, (Unit.unit, ((0 : Int), ((0 : Int), ((0 : Int), (Unit.unit, (Unit.unit, (Unit.unit, (Unit.unit, ((0 : Int), ((0 : Int), Unit.unit))))))))))))), ((pL, (pN, (Unit.unit, (Unit.unit, ((0 : Int), ((0 : Int), ((0 : Int), (Unit.unit, (Unit.unit, (Unit.unit, (Unit.unit, ((0 : Int), ((0 : Int), Unit.unit))))))))))))), (([] : List (Prod ByteArray (Prod Bool Int))), (([] : List Int), (([] : List (List Int)), (([] : List (List Int)), (([] : List Bool), Unit.unit))))))) (List.foldl addF (accOf ((Unit.unit, (Unit.unit, (Unit.unit, (Unit.unit, ((0 : Int), ((0 : Int), ((0 : Int), (Unit.unit, (Unit.unit, (Unit.unit, (Unit.unit, ((0 : Int), ((0 : Int), Unit.unit))))))))))))), ((pL, (pN, (Unit.unit, (Unit.unit, ((0 : Int), ((0 : Int), ((0 : Int), (Unit.unit, (Unit.unit, (Unit.unit, (Unit.unit, ((0 : Int), ((0 : Int), Unit.unit))))))))))))), (([] : List (Prod ByteArray (Prod Bool Int))), (([] : List Int), (([] : List (List Int)), (([] : List (List Int)), (([] : List Bool), Unit.unit)))))))) (List.drop 0 (List.drop 1 (List.take (Int.toNat ((((List.length l) : Nat) : Int) - (3 : Int) : Int)) l)))))).1).2).2).2).2).2).1)), .d (.v (.int .i64 (((((((((putAcc ((Unit.unit, (Unit.unit, (Unit.unit, (Unit.unit, ((0 : Int), ((0 : Int), ((0 : Int), (Unit.unit, (Unit.unit, (Unit.unit, (Unit.unit, ((0 : Int), ((0 : Int), Unit.unit))))))))))))), ((pL, (pN, (Unit.unit, (Unit.unit, ((0 : Int), ((0 : Int), ((0 : Int), (Unit.unit, (Unit.unit, (Unit.unit, (Unit.unit, ((0 : Int), ((0 : Int), Unit.unit))))))))))))), (([] : List (Prod ByteArray (Prod Bool Int))), (([] : List Int), (([] : List (List Int)), (([] : List (List Int)), (([] : List Bool), Unit.unit))))))) (List.foldl addF (accOf ((Unit.unit, (Unit.unit, (Unit.unit, (Unit.unit, ((0 : Int), ((0 : Int), ((0 : Int), (Unit.unit, (Unit.unit, (Unit.unit, (Unit.unit, ((0 : Int), ((0 : Int), Unit.unit))))))))))))), ((pL, (pN, (Unit.unit, (Unit.unit, ((0 : Int), ((0 : Int), ((0 : Int), (Unit.unit, (Unit.unit, (Unit.unit, (Unit.unit, ((0 : Int), ((0 : Int), Unit.unit))))))))))))), (([] : List (Prod ByteArray (Prod Bool Int))), (([] : List Int), (([] : List (List Int)), (([] : List (List Int)), (([] : List Bool), Unit.unit)))))))) (List.drop 0 (List.drop 1 (List.take (Int.toNat ((((List.length l) : Nat) : Int) - (3 : Int) : Int)) l)))))).1).2).2).2).2).2).2).1)), .nil, .nil, .nil, .nil, .d (.v (.int .i64 ((((((((((((((putAcc ((Unit.unit, (Unit.unit, (Unit.unit, (Unit.unit, ((0 : Int), ((0 : Int), ((0 : Int), (Unit.unit, (Unit.unit, (Unit.unit, (Unit.unit, ((0 : Int), ((0 : Int), Unit.unit))))))))))))), ((pL, (pN, (Unit.unit, (Unit.unit, ((0 : Int), ((0 : Int), ((0 : Int), (Unit.unit, (Unit.unit, (Unit.unit, (Unit.unit, ((0 : Int), ((0 : Int), Unit.unit))))))))))))), (([] : List (Prod ByteArray (Prod Bool Int))), (([] : List Int), (([] : List (List Int)), (([] : List (List Int)), (([] : List Bool), Unit.unit))))))) (List.foldl addF (accOf ((Unit.unit, (Unit.unit, (Unit.unit, (Unit.unit, ((0 : Int), ((0 : Int), ((0 : Int), (Unit.unit, (Unit.unit, (Unit.unit, (Unit.unit, ((0 : Int), ((0 : Int), Unit.unit))))))))))))), ((pL, (pN, (Unit.unit, (Unit.unit, ((0 : Int), ((0 : Int), ((0 : Int), (Unit.unit, (Unit.unit, (Unit.unit, (Unit.unit, ((0 : Int), ((0 : Int), Unit.unit))))))))))))), (([] : List (Prod ByteArray (Prod Bool Int))), (([] : List Int), (([] : List (List Int)), (([] : List (List Int)), (([] : List Bool), Unit.unit)))))))) (List.drop 0 (List.drop 1 (List.take (Int.toNat ((((List.length l) : Nat) : Int) - (3 : Int) : Int)) l)))))).1).2).2).2).2).2).2).2).2).2).2).2).1)), .d (.v (.int .u16 (((((((((((((((putAcc ((Unit.unit, (Unit.unit, (Unit.unit, (Unit.unit, ((0 : Int), ((0 : Int), ((0 : Int), (Unit.unit, (Unit.unit, (Unit.unit, (Unit.unit, ((0 : Int), ((0 : Int), Unit.unit))))))))))))), ((pL, (pN, (Unit.unit, (Unit.unit, ((0 : Int), ((0 : Int), ((0 : Int), (Unit.unit, (Unit.unit, (Unit.unit, (Unit.unit, ((0 : Int), ((0 : Int), Unit.unit))))))))))))), (([] : List (Prod ByteArray (Prod Bool Int))), (([] : List Int), (([] : List (List Int)), (([] : List (List Int)), (([] : List Bool), Unit.unit))))))) (List.foldl addF (accOf ((Unit.unit, (Unit.unit, (Unit.unit, (Unit.unit, ((0 : Int), ((0 : Int), ((0 : Int), (Unit.unit, (Unit.unit, (Unit.unit, (Unit.unit, ((0 : Int), ((0 : Int), Unit.unit))))))))))))), ((pL, (pN, (Unit.unit, (Unit.unit, ((0 : Int), ((0 : Int), ((0 : Int), (Unit.unit, (Unit.unit, (Unit.unit, (Unit.unit, ((0 : Int), ((0 : Int), Unit.unit))))))))))))), (([] : List (Prod ByteArray (Prod Bool Int))), (([] : List Int), (([] : List (List Int)), (([] : List (List Int)), (([] : List Bool), Unit.unit)))))))) (List.drop 0 (List.drop 1 (List.take (Int.toNat ((((List.length l) : Nat) : Int) - (3 : Int) : Int)) l)))))).1).2).2).2).2).2).2).2).2).2).2).2).2).1))]), (4, .cells 47 [.d (.sl tInst ((((putAcc ((Unit.unit, (Unit.unit, (Unit.unit, (Unit.unit, ((0 : Int), ((0 : Int), ((0 : Int), (Unit.unit, (Unit.unit, (Unit.unit, (Unit.unit, ((0 : Int), ((0 : Int), Unit.unit))))))))))))), ((pL, (pN, (Unit.unit, (Unit.unit, ((0 : Int), ((0 : Int), ((0 : Int), (Unit.unit, (Unit.unit, (Unit.unit, (Unit.unit, ((0 : Int), ((0 : Int), Unit.unit))))))))))))), (([] : List (Prod ByteArray (Prod Bool Int))), (([] : List Int), (([] : List (List Int)), (([] : List (List Int)), (([] : List Bool), Unit.unit))))))) (List.foldl addF (accOf ((Unit.unit, (Unit.unit, (Unit.unit, (Unit.unit, ((0 : Int), ((0 : Int), ((0 : Int), (Unit.unit, (Unit.unit, (Unit.unit, (Unit.unit, ((0 : Int), ((0 : Int), Unit.unit))))))))))))), ((pL, (pN, (Unit.unit, (Unit.unit, ((0 : Int), ((0 : Int), ((0 : Int), (Unit.unit, (Unit.unit, (Unit.unit, (Unit.unit, ((0 : Int), ((0 : Int), Unit.unit))))))))))))), (([] : List (Prod ByteArray (Prod Bool Int))), (([] : List Int), (([] : List (List Int)), (([] : List (List Int)), (([] : List Bool), Unit.unit)))))))) (List.drop 0 (List.drop 1 (List.take (Int.toNat ((((List.length l) : Nat) : Int) - (3 : Int) : Int)) l)))))).2).1).1), .d (.sl Ty.str (((((putAcc ((Unit.unit, (Unit.unit, (Unit.unit, (Unit.unit, ((0 : Int), ((0 : Int), ((0 : Int), (Unit.unit, (Unit.unit, (Unit.unit, (Unit.unit, ((0 : Int), ((0 : Int), Unit.unit))))))))))))), ((pL, (pN, (Unit.unit, (Unit.unit, ((0 : Int), ((0 : Int), ((0 : Int), (Unit.unit, (Unit.unit, (Unit.unit, (Unit.unit, ((0 : Int), ((0 : Int), Unit.unit))))))))))))), (([] : List (Prod ByteArray (Prod Bool Int))), (([] : List Int), (([] : List (List Int)), (([] : List (List Int)), (([] : List Bool), Unit.unit))))))) (List.foldl addF (accOf ((Unit.unit, (Unit.unit, (Unit.unit, (Unit.unit, ((0 : Int), ((0 : Int), ((0 : Int), (Unit.unit, (Unit.unit, (Unit.unit, (Unit.unit, ((0 : Int), ((0 : Int), Unit.unit))))))))))))), ((pL, (pN, (Unit.unit, (Unit.unit, ((0 : Int), ((0 : Int), ((0 : Int), (Unit.unit, (Unit.unit, (Unit.unit, (Unit.unit, ((0 : Int), ((0 : Int), Unit.unit))))))))))))), (([] : List (Prod ByteArray (Prod Bool Int))), (([] : List Int), (([] : List (List Int)), (([] : List (List Int)), (([] : List Bool), Unit.unit)))))))) (List.drop 0 (List.drop 1 (List.take (Int.toNat ((((List.length l) : Nat) : Int) - (3 : Int) : Int)) l)))))).2).1).2).1), .row 1000004002, .row 1000004003, .d (.v (.int .i64 ((((((((putAcc ((Unit.unit, (Unit.unit, (Unit.unit, (Unit.unit, ((0 : Int), ((0 : Int), ((0 : Int), (Unit.unit, (Unit.unit, (Unit.unit, (Unit.unit, ((0 : Int), ((0 : Int), Unit.unit))))))))))))), ((pL, (pN, (Unit.unit, (Unit.unit, ((0 : Int), ((0 : Int), ((0 : Int), (Unit.unit, (Unit.unit, (Unit.unit, (Unit.unit, ((0 : Int), ((0 : Int), Unit.unit))))))))))))), (([] : List (Prod ByteArray (Prod Bool Int))), (([] : List Int), (([] : List (List Int)), (([] : List (List Int)), (([] : List Bool), Unit.unit))))))) (List.foldl addF (accOf ((Unit.unit, (Unit.unit, (Unit.unit, (Unit.unit, ((0 : Int), ((0 : Int), ((0 : Int), (Unit.unit, (Unit.unit, (Unit.unit, (Unit.unit, ((0 : Int), ((0 : Int), Unit.unit))))))))))))), ((pL, (pN, (Unit.unit, (Unit.unit, ((0 : Int), ((0 : Int), ((0 : Int), (Unit.unit, (Unit.unit, (Unit.unit, (Unit.unit, ((0 : Int), ((0 : Int), Unit.unit))))))))))))), (([] : List (Prod ByteArray (Prod Bool Int))), (([] : List Int), (([] : List (List Int)), (([] : List (List Int)), (([] : List Bool), Unit.unit)))))))) (List.drop 0 (List.drop 1 (List.take (Int.toNat ((((List.length l) : Nat) : Int) - (3 : Int) : Int)) l)))))).2).1).2).2).2).2).1)), .d (.v (.int .i64 (((((((((putAcc ((Unit.unit, (Unit.unit, (Unit.unit, (Unit.unit, ((0 : Int), ((0 : Int), ((0 : Int), (Unit.unit, (Unit.unit, (Unit.unit, (Unit.unit, ((0 : Int), ((0 : Int), Unit.unit))))))))))))), ((pL, (pN, (Unit.unit, (Unit.unit, ((0 : Int), ((0 : Int), ((0 : Int), (Unit.unit, (Unit.unit, (Unit.unit, (Unit.unit, ((0 : Int), ((0 : Int), Unit.unit))))))))))))), (([] : List (Prod ByteArray (Prod Bool Int))), (([] : List Int), (([] : List (List Int)), (([] : List (List Int)), (([] : List Bool), Unit.unit))))))) (List.foldl addF (accOf ((Unit.unit, (Unit.unit, (Unit.unit, (Unit.unit, ((0 : Int), ((0 : Int), ((0 : Int), (Unit.unit, (Unit.unit, (Unit.unit, (Unit.unit, ((0 : Int), ((0 : Int), Unit.unit))))))))))))), ((pL, (pN, (Unit.unit, (Unit.unit, ((0 : Int), ((0 : Int), ((0 : Int), (Unit.unit, (Unit.unit, (Unit.unit, (Unit.unit, ((0 : Int), ((0 : Int), Unit.unit))))))))))))), (([] : List (Prod ByteArray (Prod Bool Int))), (([] : List Int), (([] : List (List Int)), (([] : List (List Int)), (([] : List Bool), Unit.unit)))))))) (List.drop 0 (List.drop 1 (List.take (Int.toNat ((((List.length l) : Nat) : Int) - (3 : Int) : Int)) l)))))).2).1).2).2).2).2).2).1)), .d (.v (.int .i64 ((((((((((putAcc ((Unit.unit, (Unit.unit, (Unit.unit, (Unit.unit, ((0 : Int), ((0 : Int), ((0 : Int), (Unit.unit, (Unit.unit, (Unit.unit, (Unit.unit, ((0 : Int), ((0 : Int), Unit.unit))))))))))))), ((pL, (pN, (Unit.unit, (Unit.unit, ((0 : Int), ((0 : Int), ((0 : Int), (Unit.unit, (Unit.unit, (Unit.unit, (Unit.unit, ((0 : Int), ((0 : Int), Unit.unit))))))))))))), (([] : List (Prod ByteArray (Prod Bool Int))), (([] : List Int), (([] : List (List Int)), (([] : List (List Int)), (([] : List Bool), Unit.unit))))))) (List.foldl addF (accOf ((Unit.unit, (Unit.unit, (Unit.unit, (Unit.unit, ((0 : Int), ((0 : Int), ((0 : Int), (Unit.unit, (Unit.unit, (Unit.unit, (Unit.unit, ((0 : Int), ((0 : Int), Unit.unit))))))))))))), ((pL, (pN, (Unit.unit, (Unit.unit, ((0 : Int), ((0 : Int), ((0 : Int), (Unit.unit, (Unit.unit, (Unit.unit, (Unit.unit, ((0 : Int), ((0 : Int), Unit.unit))))))))))))), (([] : List (Prod ByteArray (Prod Bool Int))), (([] : List Int), (([] : List (List Int)), (([] : List (List Int)), (([] : List Bool), Unit.unit)))))))) (List.drop 0 (List.drop 1 (List.take (Int.toNat ((((List.length l) : Nat) : Int) - (3 : Int) : Int)) l)))))).2).1).2).2).2).2).2).2).1)), .row 1000004007, .row 1000004008, .row 1000004009, .nil, .d (.v (.int .i64 (((((((((((((((putAcc ((Unit.unit, (Unit.unit, (Unit.unit, (Unit.unit, ((0 : Int), ((0 : Int), ((0 : Int), (Unit.unit, (Unit.unit, (Unit.unit, (Unit.unit, ((0 : Int), ((0 : Int), Unit.unit))))))))))))), ((pL, (pN, (Unit.unit, (Unit.unit, ((0 : Int), ((0 : Int), ((0 : Int), (Unit.unit, (Unit.unit, (Unit.unit, (Unit.unit, ((0 : Int), ((0 : Int), Unit.unit))))))))))))), (([] : List (Prod ByteArray (Prod Bool Int))), (([] : List Int), (([] : List (List Int)), (([] : List (List Int)), (([] : List Bool), Unit.unit))))))) (List.foldl addF (accOf ((Unit.unit, (Unit.unit, (Unit.unit, (Unit.unit, ((0 : Int), ((0 : Int), ((0 : Int), (Unit.unit, (Unit.unit, (Unit.unit, (Unit.unit, ((0 : Int), ((0 : Int), Unit.unit))))))))))))), ((pL, (pN, (Unit.unit, (Unit.unit, ((0 : Int), ((0 : Int), ((0 : Int), (Unit.unit, (Unit.unit, (Unit.unit, (Unit.unit, ((0 : Int), ((0 : Int), Unit.unit))))))))))))), (([] : List (Prod ByteArray (Prod Bool Int))), (([] : List Int), (([] : List (List Int)), (([] : List (List Int)), (([] : List Bool), Unit.unit)))))))) (List.drop 0 (List.drop 1 (List.take (Int.toNat ((((List.length l) : Nat) : Int) - (3 : Int) : Int)) l)))))).2).1).2).2).2).2).2).2).2).2).2).2).2).1)), .d (.v (.int .u16 ((((((((((((((((putAcc ((Unit.unit, (Unit.unit, (Unit.unit, (Unit.unit, ((0 : Int), ((0 : Int), ((0 : Int), (Unit.unit, (Unit.unit, (Unit.unit, (Unit.unit, ((0 : Int), ((0 : Int), Unit.unit))))))))))))), ((pL, (pN, (Unit.unit, (Unit.unit, ((0 : Int), ((0 : Int), ((0 : Int), (Unit.unit, (Unit.unit, (Unit.unit, (Unit.unit, ((0 : Int), ((0 : Int), Unit.unit))))))))))))), (([] : List (Prod ByteArray (Prod Bool Int))), (([] : List Int), (([] : List (List Int)), (([] : List (List Int)), (([] : List Bool), Unit.unit))))))) (List.foldl addF (accOf ((Unit.unit, (Unit.unit, (Unit.unit, (Unit.unit, ((0 : Int), ((0 : Int), ((0 : Int), (Unit.unit, (Unit.unit, (Unit.unit, (Unit.unit, ((0 : Int), ((0 : Int), Unit.unit))))))))))))), ((pL, (pN, (Unit.unit, (Unit.unit, ((0 : Int), ((0 : Int), ((0 : Int), (Unit.unit, (Unit.unit, (Unit.unit, (Unit.unit, ((0 : Int), ((0 : Int), Unit.unit))))))))))))), (([] : List (Prod ByteArray (Prod Bool Int))), (([] : List Int), (([] : List (List Int)), (([] : List (List Int)), (([] : List Bool), Unit.unit)))))))) (List.drop 0 (List.drop 1 (List.take (Int.toNat ((((List.length l) : Nat) : Int) - (3 : Int) : Int)) l)))))).2).1).2).2).2).2).2).2).2).2).2).2).2).2).1))]), (1000004002, .row tEnt 30 ((((putAcc ((Unit.unit, (Unit.unit, (Unit.unit, (Unit.unit, ((0 : Int), ((0 : Int), ((0 : Int), (Unit.unit, (Unit.unit, (Unit.unit, (Unit.unit, ((0 : Int), ((0 : Int), Unit.unit))))))))))))), ((pL, (pN, (Unit.unit, (Unit.unit, ((0 : Int), ((0 : Int), ((0 : Int), (Unit.unit, (Unit.unit, (Unit.unit, (Unit.unit, ((0 : Int), ((0 : Int), Unit.unit))))))))))))), (([] : List (Prod ByteArray (Prod Bool Int))), (([] : List Int), (([] : List (List Int)), (([] : List (List Int)), (([] : List Bool), Unit.unit))))))) (List.foldl addF (accOf ((Unit.unit, (Unit.unit, (Unit.unit, (Unit.unit, ((0 : Int), ((0 : Int), ((0 : Int), (Unit.unit, (Unit.unit, (Unit.unit, (Unit.unit, ((0 : Int), ((0 : Int), Unit.unit))))))))))))), ((pL, (pN, (Unit.unit, (Unit.unit, ((0 : Int), ((0 : Int), ((0 : Int), (Unit.unit, (Unit.unit, (Unit.unit, (Unit.unit, ((0 : Int), ((0 : Int), Unit.unit))))))))))))), (([] : List (Prod ByteArray (Prod Bool Int))), (([] : List Int), (([] : List (List Int)), (([] : List (List Int)), (([] : List Bool), Unit.unit)))))))) (List.drop 0 (List.drop 1 (List.take (Int.toNat ((((List.length l) : Nat) : Int) - (3 : Int) : Int)) l)))))).2).2).1), (1000004003, .row tI 3 (((((putAcc ((Unit.unit, (Unit.unit, (Unit.unit, (Unit.unit, ((0 : Int), ((0 : Int), ((0 : Int), (Unit.unit, (Unit.unit, (Unit.unit, (Unit.unit, ((0 : Int), ((0 : Int), Unit.unit))))))))))))), ((pL, (pN, (Unit.unit, (Unit.unit, ((0 : Int), ((0 : Int), ((0 : Int), (Unit.unit, (Unit.unit, (Unit.unit, (Unit.unit, ((0 : Int), ((0 : Int), Unit.unit))))))))))))), (([] : List (Prod ByteArray (Prod Bool Int))), (([] : List Int), (([] : List (List Int)), (([] : List (List Int)), (([] : List Bool), Unit.unit))))))) (List.foldl addF (accOf ((Unit.unit, (Unit.unit, (Unit.unit, (Unit.unit, ((0 : Int), ((0 : Int), ((0 : Int), (Unit.unit, (Unit.unit, (Unit.unit, (Unit.unit, ((0 : Int), ((0 : Int), Unit.unit))))))))))))), ((pL, (pN, (Unit.unit, (Unit.unit, ((0 : Int), ((0 : Int), ((0 : Int), (Unit.unit, (Unit.unit, (Unit.unit, (Unit.unit, ((0 : Int), ((0 : Int), Unit.unit))))))))))))), (([] : List (Prod ByteArray (Prod Bool Int))), (([] : List Int), (([] : List (List Int)), (([] : List (List Int)), (([] : List Bool), Unit.unit)))))))) (List.drop 0 (List.drop 1 (List.take (Int.toNat ((((List.length l) : Nat) : Int) - (3 : Int) : Int)) l)))))).2).2).2).1), (1000004007, .row tB 35 ((((((putAcc ((Unit.unit, (Unit.unit, (Unit.unit, (Unit.unit, ((0 : Int), ((0 : Int), ((0 : Int), (Unit.unit, (Unit.unit, (Unit.unit, (Unit.unit, ((0 : Int), ((0 : Int), Unit.unit))))))))))))), ((pL, (pN, (Unit.unit, (Unit.unit, ((0 : Int), ((0 : Int), ((0 : Int), (Unit.unit, (Unit.unit, (Unit.unit, (Unit.unit, ((0 : Int), ((0 : Int), Unit.unit))))))))))))), (([] : List (Prod ByteArray (Prod Bool Int))), (([] : List Int), (([] : List (List Int)), (([] : List (List Int)), (([] : List Bool), Unit.unit))))))) (List.foldl addF (accOf ((Unit.unit, (Unit.unit, (Unit.unit, (Unit.unit, ((0 : Int), ((0 : Int), ((0 : Int), (Unit.unit, (Unit.unit, (Unit.unit, (Unit.unit, ((0 : Int), ((0 : Int), Unit.unit))))))))))))), ((pL, (pN, (Unit.unit, (Unit.unit, ((0 : Int), ((0 : Int), ((0 : Int), (Unit.unit, (Unit.unit, (Unit.unit, (Unit.unit, ((0 : Int), ((0 : Int), Unit.unit))))))))))))), (([] : List (Prod ByteArray (Prod Bool Int))), (([] : List Int), (([] : List (List Int)), (([] : List (List Int)), (([] : List Bool), Unit.unit)))))))) (List.drop 0 (List.drop 1 (List.take (Int.toNat ((((List.length l) : Nat) : Int) - (3 : Int) : Int)) l)))))).2).2).2).2).1), (1000004008, .row tB 35 (((((((putAcc ((Unit.unit, (Unit.unit, (Unit.unit, (Unit.unit, ((0 : Int), ((0 : Int), ((0 : Int), (Unit.unit, (Unit.unit, (Unit.unit, (Unit.unit, ((0 : Int), ((0 : Int), Unit.unit))))))))))))), ((pL, (pN, (Unit.unit, (Unit.unit, ((0 : Int), ((0 : Int), ((0 : Int), (Unit.unit, (Unit.unit, (Unit.unit, (Unit.unit, ((0 : Int), ((0 : Int), Unit.unit))))))))))))), (([] : List (Prod ByteArray (Prod Bool Int))), (([] : List Int), (([] : List (List Int)), (([] : List (List Int)), (([] : List Bool), Unit.unit))))))) (List.foldl addF (accOf ((Unit.unit, (Unit.unit, (Unit.unit, (Unit.unit, ((0 : Int), ((0 : Int), ((0 : Int), (Unit.unit, (Unit.unit, (Unit.unit, (Unit.unit, ((0 : Int), ((0 : Int), Unit.unit))))))))))))), ((pL, (pN, (Unit.unit, (Unit.unit, ((0 : Int), ((0 : Int), ((0 : Int), (Unit.unit, (Unit.unit, (Unit.unit, (Unit.unit, ((0 : Int), ((0 : Int), Unit.unit))))))))))))), (([] : List (Prod ByteArray (Prod Bool Int))), (([] : List Int), (([] : List (List Int)), (([] : List (List Int)), (([] : List Bool), Unit.unit)))))))) (List.drop 0 (List.drop 1 (List.take (Int.toNat ((((List.length l) : Nat) : Int) - (3 : Int) : Int)) l)))))).2).2).2).2).2).1), (1000004009, .row Ty.bool 4 ((((((((putAcc ((Unit.unit, (Unit.unit, (Unit.unit, (Unit.unit, ((0 : Int), ((0 : Int), ((0 : Int), (Unit.unit, (Unit.unit, (Unit.unit, (Unit.unit, ((0 : Int), ((0 : Int), Unit.unit))))))))))))), ((pL, (pN, (Unit.unit, (Unit.unit, ((0 : Int), ((0 : Int), ((0 : Int), (Unit.unit, (Unit.unit, (Unit.unit, (Unit.unit, ((0 : Int), ((0 : Int), Unit.unit))))))))))))), (([] : List (Prod ByteArray (Prod Bool Int))), (([] : List Int), (([] : List (List Int)), (([] : List (List Int)), (([] : List Bool), Unit.unit))))))) (List.foldl addF (accOf ((Unit.unit, (Unit.unit, (Unit.unit, (Unit.unit, ((0 : Int), ((0 : Int), ((0 : Int), (Unit.unit, (Unit.unit, (Unit.unit, (Unit.unit, ((0 : Int), ((0 : Int), Unit.unit))))))))))))), ((pL, (pN, (Unit.unit, (Unit.unit, ((0 : Int), ((0 : Int), ((0 : Int), (Unit.unit, (Unit.unit, (Unit.unit, (Unit.unit, ((0 : Int), ((0 : Int), Unit.unit))))))))))))), (([] : List (Prod ByteArray (Prod Bool Int))), (([] : List Int), (([] : List (List Int)), (([] : List (List Int)), (([] : List Bool), Unit.unit)))))))) (List.drop 0 (List.drop 1 (List.take (Int.toNat ((((List.length l) : Nat) : Int) - (3 : Int) : Int)) l)))))).2).2).2).2).2).2).1)]⟩))))) (by kernel_rfl) ?_
  have e3 : ((l.length : Int) - 3).toNat = l.length - 3 := by omega
  rw [e3]
  have hml : ((l.take (l.length - 3)).drop 1).length ≤ 1000000 := by rw [List.length_drop, List.length_take]; omega
  have hmall : (((l.take (l.length - 3)).drop 1).all fun f : File => decide (f.1.size ≤ 1000000000)) = true := List.all_eq_true.2 fun f hf => by
    simp only [madeOk, Bool.and_eq_true] at hok
    have := List.all_eq_true.1 hok.2 f (List.mem_of_mem_take (List.mem_of_mem_drop hf))
    simp only [Bool.and_eq_true] at this
    exact this.1.1
  refine .lnd (by omega) (.lneed (by simp [okB]; omega) (.lnd ⟨rfl, by omega, by omega, by omega, ⟨Int.le_refl _, Int.le_refl _, Int.le_refl _, Int.le_refl _⟩, hmall⟩ ?_))
  refine Gives.goto (σ' := q30x.st ((l, (), (), ()), (z13, (pL, pN, (), (), (0 : Int), (0 : Int), (0 : Int), (), (), (), (), (0 : Int), (0 : Int), ()), (accF l).1, (accF l).2.1, (accF l).2.2.1, (accF l).2.2.2, [], ()))) (by rw [List.drop_zero]; rfl) ?_
  have hA := accF_len l
  unfold unkOf
  generalize accF l = A at hA ⊢
  obtain ⟨t, ar, fs, fa⟩ := A
  refine Gives.seq (by kernel_rfl) ?_
  refine Gives.run (t' := .need (decide (((-(9223372036854775808 : Int) : Int) ≤ ((((List.length l) : Nat) : Int) - (3 : Int) : Int)) ∧ (((((List.length l) : Nat) : Int) - (3 : Int) : Int) ≤ (9223372036854775807 : Int)))) (.need (inR ((((List.length l) : Nat) : Int) - (3 : Int) : Int) (List.length l)) (.need (decide (((((List.length (((List.getD l (Int.toNat ((((List.length l) : Nat) : Int) - (3 : Int) : Int)) (ByteArray.empty, (false, ([] : List Int))))).2).2) : Nat) : Int) = (((List.length (((List.getD l (Int.toNat ((((List.length l) : Nat) : Int) - (3 : Int) : Int)) (ByteArray.empty, (false, ([] : List Int))))).2).2) : Nat) : Int)) ∧ (((((List.length (((List.getD l (Int.toNat ((((List.length l) : Nat) : Int) - (3 : Int) : Int)) (ByteArray.empty, (false, ([] : List Int))))).2).2) : Nat) : Int) ≤ (1000000000 : Int)) ∧ (((0 : Int) ≤ (0 : Int)) ∧ (((0 : Int) ≤ (((List.length (((List.getD l (Int.toNat ((((List.length l) : Nat) : Int) - (3 : Int) : Int)) (ByteArray.empty, (false, ([] : List Int))))).2).2) : Nat) : Int)) ∧ ((((List.length ([] : List Bool)) : Nat) : Int) ≤ (0 : Int))))))) (.ret (.nx, ⟨143, [(0, rL tFile l), (2, .e (.c (.np 2 0))), (4, .e (.c (.np 4 0)))], [(2, .cells 47 [.nil, .nil, .nil, .nil, .d (.v (.int .i64 (((((((putFl ((Unit.unit, (Unit.unit, (Unit.unit, (Unit.unit, ((((((z13).2).2).2).2).1, (((((((z13).2).2).2).2).2).1, ((((((((z13).2).2).2).2).2).2).1, (Unit.unit, (Unit.unit, (Unit.unit, (Unit.unit, (((((((((((((z13).2).2).2).2).2).2).2).2).2).2).2).1, ((((((((((((((z13).2).2).2).2).2).2).2).2).2).2).2).2).1, Unit.unit))))))))))))), ((pL, (pN, (Unit.unit, (Unit.unit, ((0 : Int), ((0 : Int), ((0 : Int), (Unit.unit, (Unit.unit, (Unit.unit, (Unit.unit, ((0 : Int), ((0 : Int), Unit.unit))))))))))))), (t, (ar, (fs, (fa, (([] : List Bool), Unit.unit))))))) (([] : List Bool) ++ (List.map (fun x => (x == (1 : Int))) (List.drop 0 (((List.getD l (Int.toNat ((((List.length l) : Nat) : Int) - (3 : Int) : Int)) (ByteArray.empty, (false, ([] : List Int))))).2).2))))).1).2).2).2).2).1)), .d (.v (.int .i64 ((((((((putFl ((Unit.unit, (Unit.unit, (Unit.unit, (Unit.unit, ((((((z13).2).2).2).2).1, (((((((z13).2).2).2).2).2).1, ((((((((z13).2).2).2).2).2).2).1, (Unit.unit, (Unit.unit, (Unit.unit, (Unit.unit, (((((((((((((z13).2).2).2).2).2).2).2).2).2).2).2).1, ((((((((((((((z13).2).2).2).2).2).2).2).2).2).2).2).2).1, Unit.unit))))))))))))), ((pL, (pN, (Unit.unit, (Unit.unit, ((0 : Int), ((0 : Int), ((0 : Int), (Unit.unit, (Unit.unit, (Unit.unit, (Unit.unit, ((0 : Int), ((0 : Int), Unit.unit))))))))))))), (t, (ar, (fs, (fa, (([] : List Bool), Unit.unit))))))) (([] : List Bool) ++ (List.map (fun x => (x == (1 : Int))) (List.drop 0 (((List.getD l (Int.toNat ((((List.length l) : Nat) : Int) - (3 : Int) : Int)) (ByteArray.empty, (false, ([] : List Int))))).2).2))))).1).2).2).2).2).2).1)), .d (.v (.int .i64 (((((((((putFl ((Unit.unit, (Unit.unit, (Unit.unit, (Unit.unit, ((((((z13).2).2).2).2).1, (((((((z13).2).2).2).2).2).1, ((((((((z13).2).2).2).2).2).2).1, (Unit.unit, (Unit.unit, (Unit.unit, (Unit.unit, (((((((((((((z13).2).2).2).2).2).2).2).2).2).2).2).1, ((((((((((((((z13).2).2).2).2).2).2).2).2).2).2).2).2).1, Unit.unit))))))))))))), ((pL, (pN, (Unit.unit, (Unit.unit, ((0 : Int), ((0 : Int), ((0 : Int), (Unit.unit, (Unit.unit, (Unit.unit, (Unit.unit, ((0 : Int), ((0 : Int), Unit.unit))))))))))))), (t, (ar, (fs, (fa, (([] : List Bool), Unit.unit))))))) (([] : List Bool) ++ (List.map (fun x => (x == (1 : Int))) (List.drop 0 (((List.getD l (Int.toNat ((((List.length l) : Nat) : Int) - (3 : Int) : Int)) (ByteArray.empty, (false, ([] : List Int))))).2).2))))).1).2).2).2).2).2).2).1)), .nil, .nil, .nil, .nil, .d (.v (.int .i64 ((((((((((((((putFl ((Unit.unit, (Unit.unit, (Unit.unit, (Unit.unit, ((((((z13).2).2).2).2).1, (((((((z13).2).2).2).2).2).1, ((((((((z13).2).2).2).2).2).2).1, (Unit.unit, (Unit.unit, (Unit.unit, (Unit.unit, (((((((((((((z13).2).2).2).2).2).2).2).2).2).2).2).1, ((((((((((((((z13).2).2).2).2).2).2).2).2).2).2).2).2).1, Unit.unit))))))))))))), ((pL, (pN, (Unit.unit, (Unit.unit, ((0 : Int), ((0 : Int), ((0 : Int), (Unit.unit, (Unit.unit, (Unit.unit, (Unit.unit, ((0 : Int), ((0 : Int), Unit.unit))))))))))))), (t, (ar, (fs, (fa, (([] : List Bool), Unit.unit))))))) (([] : List Bool) ++ (List.map (fun x => (x == (1 : Int))) (List.drop 0 (((List.getD l (Int.toNat ((((List.length l) : Nat) : Int) - (3 : Int) : Int)) (ByteArray.empty, (false, ([] : List Int))))).2).2))))).1).2).2).2).2).2).2).2).2).2).2).2).1)), .d (.v (.int .u16 (((((((((((((((putFl ((Unit.unit, (Unit.unit, (Unit.unit, (Unit.unit, ((((((z13).2).2).2).2).1, (((((((z13).2).2).2).2).2).1, ((((((((z13).2).2).2).2).2).2).1, (Unit.unit, (Unit.unit, (Unit.unit, (Unit.unit, (((((((((((((z13).2).2).2).2).2).2).2).2).2).2).2).1, ((((((((((((((z13).2).2).2).2).2).2).2).2).2).2).2).2).1, Unit.unit))))))))))))), ((pL, (pN, (Unit.unit, (Unit.unit, ((0 : Int), ((0 : Int), ((0 : Int), (Unit.unit, (Unit.unit, (Unit.unit, (Unit.unit, ((0 : Int), ((0 : Int), Unit.unit))))))))))))), (t, (ar, (fs, (fa, (([] : List Bool), Unit.unit))))))) (([] : List Bool) ++ (List.map (fun x => (x == (1 : Int))) (List.drop 0 (((List.getD l (Int.toNat ((((List.length l) : Nat) : Int) - (3 : Int) : Int)) (ByteArray.empty, (false, ([] : List Int))))).2).2))))).1).2).2).2).2).2).2).2).2).2).2).2).2).1))]), (4, .cells 47 [.d (.sl tInst ((((putFl ((Unit.unit, (Unit.unit, (Unit.unit, (Unit.unit, ((((((z13).2).2).2).2).1, (((((((z13).2).2).2).2).2).1, ((((((((z13).2).2).2).2).2).2).1, (Unit.unit, (Unit.unit, (Unit.unit, (Unit.unit, (((((((((((((z13).2).2).2).2).2).2).2).2).2).2).2).1, ((((((((((((((z13).2).2).2).2).2).2).2).2).2).2).2).2).1, Unit.unit))))))))))))), ((pL, (pN, (Unit.unit, (Unit.unit, ((0 : Int), ((0 : Int), ((0 : Int), (Unit.unit, (Unit.unit, (Unit.unit, (Unit.unit, ((0 : Int), ((0 : Int), Unit.unit))))))))))))), (t, (ar, (fs, (fa, (([] : List Bool), Unit.unit))))))) (([] : List Bool) ++ (List.map (fun x => (x == (1 : Int))) (List.drop 0 (((List.getD l (Int.toNat ((((List.length l) : Nat) : Int) - (3 : Int) : Int)) (ByteArray.empty, (false, ([] : List Int))))).2).2))))).2).1).1), .d (.sl Ty.str (((((putFl ((Unit.unit, (Unit.unit, (Unit.unit, (Unit.unit, ((((((z13).2).2).2).2).1, (((((((z13).2).2).2).2).2).1, ((((((((z13).2).2).2).2).2).2).1, (Unit.unit, (Unit.unit, (Unit.unit, (Unit.unit, (((((((((((((z13).2).2).2).2).2).2).2).2).2).2).2).1, ((((((((((((((z13).2).2).2).2).2).2).2).2).2).2).2).2).1, Unit.unit))))))))))))), ((pL, (pN, (Unit.unit, (Unit.unit, ((0 : Int), ((0 : Int), ((0 : Int), (Unit.unit, (Unit.unit, (Unit.unit, (Unit.unit, ((0 : Int), ((0 : Int), Unit.unit))))))))))))), (t, (ar, (fs, (fa, (([] : List Bool), Unit.unit))))))) (([] : List Bool) ++ (List.map (fun x => (x == (1 : Int))) (List.drop 0 (((List.getD l (Int.toNat ((((List.length l) : Nat) : Int) - (3 : Int) : Int)) (ByteArray.empty, (false, ([] : List Int))))).2).2))))).2).1).2).1), .row 1000004002, .row 1000004003, .d (.v (.int .i64 ((((((((putFl ((Unit.unit, (Unit.unit, (Unit.unit, (Unit.unit, ((((((z13).2).2).2).2).1, (((((((z13).2).2).2).2).2).1, ((((((((z13).2).2).2).2).2).2).1, (Unit.unit, (Unit.unit, (Unit.unit, (Unit.unit, (((((((((((((z13).2).2).2).2).2).2).2).2).2).2).2).1, ((((((((((((((z13).2).2).2).2).2).2).2).2).2).2).2).2).1, Unit.unit))))))))))))), ((pL, (pN, (Unit.unit, (Unit.unit, ((0 : Int), ((0 : Int), ((0 : Int), (Unit.unit, (Unit.unit, (Unit.unit, (Unit.unit, ((0 : Int), ((0 : Int), Unit.unit))))))))))))), (t, (ar, (fs, (fa, (([] : List Bool), Unit.unit))))))) (([] : List Bool) ++ (List.map (fun x => (x == (1 : Int))) (List.drop 0 (((List.getD l (Int.toNat ((((List.length l) : Nat) : Int) - (3 : Int) : Int)) (ByteArray.empty, (false, ([] : List Int))))).2).2))))).2).1).2).2).2).2).1)), .d (.v (.int .i64 (((((((((putFl ((Unit.unit, (Unit.unit, (Unit.unit, (Unit.unit, ((((((z13).2).2).2).2).1, (((((((z13).2).2).2).2).2).1, ((((((((z13).2).2).2).2).2).2).1, (Unit.unit, (Unit.unit, (Unit.unit, (Unit.unit, (((((((((((((z13).2).2).2).2).2).2).2).2).2).2).2).1, ((((((((((((((z13).2).2).2).2).2).2).2).2).2).2).2).2).1, Unit.unit))))))))))))), ((pL, (pN, (Unit.unit, (Unit.unit, ((0 : Int), ((0 : Int), ((0 : Int), (Unit.unit, (Unit.unit, (Unit.unit, (Unit.unit, ((0 : Int), ((0 : Int), Unit.unit))))))))))))), (t, (ar, (fs, (fa, (([] : List Bool), Unit.unit))))))) (([] : List Bool) ++ (List.map (fun x => (x == (1 : Int))) (List.drop 0 (((List.getD l (Int.toNat ((((List.length l) : Nat) : Int) - (3 : Int) : Int)) (ByteArray.empty, (false, ([] : List Int))))).2).2))))).2).1).2).2).2).2).2).1)), .d (.v (.int .i64 ((((((((((putFl ((Unit.unit, (Unit.unit, (Unit.unit, (Unit.unit, ((((((z13).2).2).2).2).1, (((((((z13).2).2).2).2).2).1, ((((((((z13).2).2).2).2).2).2).1, (Unit.unit, (Unit.unit, (Unit.unit, (Unit.unit, (((((((((((((z13).2).2).2).2).2).2).2).2).2).2).2).1, ((((((((((((((z13).2).2).2).2).2).2).2).2).2).2).2).2).1, Unit.unit))))))))))))), ((pL, (pN, (Unit.unit, (Unit.unit, ((0 : Int), ((0 : Int), ((0 : Int), (Unit.unit, (Unit.unit, (Unit.unit, (Unit.unit, ((0 : Int), ((0 : Int), Unit.unit))))))))))))), (t, (ar, (fs, (fa, (([] : List Bool), Unit.unit))))))) (([] : List Bool) ++ (List.map (fun x => (x == (1 : Int))) (List.drop 0 (((List.getD l (Int.toNat ((((List.length l) : Nat) : Int) - (3 : Int) : Int)) (ByteArray.empty, (false, ([] : List Int))))).2).2))))).2).1).2).2).2).2).2).2).1)), .row 1000004007, .row 1000004008, .row 1000004009, .nil, .d (.v (.int .i64 (((((((((((((((putFl ((Unit.unit, (Unit.unit, (Unit.unit, (Unit.unit, ((((((z13).2).2).2).2).1, (((((((z13).2).2).2).2).2).1, ((((((((z13).2).2).2).2).2).2).1, (Unit.unit, (Unit.unit, (Unit.unit, (Unit.unit, (((((((((((((z13).2).2).2).2).2).2).2).2).2).2).2).1, ((((((((((((((z13).2).2).2).2).2).2).2).2).2).2).2).2).1, Unit.unit))))))))))))), ((pL, (pN, (Unit.unit, (Unit.unit, ((0 : Int), ((0 : Int), ((0 : Int), (Unit.unit, (Unit.unit, (Unit.unit, (Unit.unit, ((0 : Int), ((0 : Int), Unit.unit))))))))))))), (t, (ar, (fs, (fa, (([] : List Bool), Unit.unit))))))) (([] : List Bool) ++ (List.map (fun x => (x == (1 : Int))) (List.drop 0 (((List.getD l (Int.toNat ((((List.length l) : Nat) : Int) - (3 : Int) : Int)) (ByteArray.empty, (false, ([] : List Int))))).2).2))))).2).1).2).2).2).2).2).2).2).2).2).2).2).1)), .d (.v (.int .u16 ((((((((((((((((putFl ((Unit.unit, (Unit.unit, (Unit.unit, (Unit.unit, ((((((z13).2).2).2).2).1, (((((((z13).2).2).2).2).2).1, ((((((((z13).2).2).2).2).2).2).1, (Unit.unit, (Unit.unit, (Unit.unit, (Unit.unit, (((((((((((((z13).2).2).2).2).2).2).2).2).2).2).2).1, ((((((((((((((z13).2).2).2).2).2).2).2).2).2).2).2).2).1, Unit.unit))))))))))))), ((pL, (pN, (Unit.unit, (Unit.unit, ((0 : Int), ((0 : Int), ((0 : Int), (Unit.unit, (Unit.unit, (Unit.unit, (Unit.unit, ((0 : Int), ((0 : Int), Unit.unit))))))))))))), (t, (ar, (fs, (fa, (([] : List Bool), Unit.unit))))))) (([] : List Bool) ++ (List.map (fun x => (x == (1 : Int))) (List.drop 0 (((List.getD l (Int.toNat ((((List.length l) : Nat) : Int) - (3 : Int) : Int)) (ByteArray.empty, (false, ([] : List Int))))).2).2))))).2).1).2).2).2).2).2).2).2).2).2).2).2).2).1))]), (1000004002, .row tEnt 30 ((((putFl ((Unit.unit, (Unit.unit, (Unit.unit, (Unit.unit, ((((((z13).2).2).2).2).1, (((((((z13).2).2).2).2).2).1, ((((((((z13).2).2).2).2).2).2).1, (Unit.unit, (Unit.unit, (Unit.unit, (Unit.unit, (((((((((((((z13).2).2).2).2).2).2).2).2).2).2).2).1, ((((((((((((((z13).2).2).2).2).2).2).2).2).2).2).2).2).1, Unit.unit))))))))))))), ((pL, (pN, (Unit.unit, (Unit.unit, ((0 : Int), ((0 : Int), ((0 : Int), (Unit.unit, (Unit.unit, (Unit.unit, (Unit.unit, ((0 : Int), ((0 : Int), Unit.unit))))))))))))), (t, (ar, (fs, (fa, (([] : List Bool), Unit.unit))))))) (([] : List Bool) ++ (List.map (fun x => (x == (1 : Int))) (List.drop 0 (((List.getD l (Int.toNat ((((List.length l) : Nat) : Int) - (3 : Int) : Int)) (ByteArray.empty, (false, ([] : List Int))))).2).2))))).2).2).1), (1000004003, .row tI 3 (((((putFl ((Unit.unit, (Unit.unit, (Unit.unit, (Unit.unit, ((((((z13).2).2).2).2).1, (((((((z13).2).2).2).2).2).1, ((((((((z13).2).2).2).2).2).2).1, (Unit.unit, (Unit.unit, (Unit.unit, (Unit.unit, (((((((((((((z13).2).2).2).2).2).2).2).2).2).2).2).1, ((((((((((((((z13).2).2).2).2).2).2).2).2).2).2).2).2).1, Unit.unit))))))))))))), ((pL, (pN, (Unit.unit, (Unit.unit, ((0 : Int), ((0 : Int), ((0 : Int), (Unit.unit, (Unit.unit, (Unit.unit, (Unit.unit, ((0 : Int), ((0 : Int), Unit.unit))))))))))))), (t, (ar, (fs, (fa, (([] : List Bool), Unit.unit))))))) (([] : List Bool) ++ (List.map (fun x => (x == (1 : Int))) (List.drop 0 (((List.getD l (Int.toNat ((((List.length l) : Nat) : Int) - (3 : Int) : Int)) (ByteArray.empty, (false, ([] : List Int))))).2).2))))).2).2).2).1), (1000004007, .row tB 35 ((((((putFl ((Unit.unit, (Unit.unit, (Unit.unit, (Unit.unit, ((((((z13).2).2).2).2).1, (((((((z13).2).2).2).2).2).1, ((((((((z13).2).2).2).2).2).2).1, (Unit.unit, (Unit.unit, (Unit.unit, (Unit.unit, (((((((((((((z13).2).2).2).2).2).2).2).2).2).2).2).1, ((((((((((((((z13).2).2).2).2).2).2).2).2).2).2).2).2).1, Unit.unit))))))))))))), ((pL, (pN, (Unit.unit, (Unit.unit, ((0 : Int), ((0 : Int), ((0 : Int), (Unit.unit, (Unit.unit, (Unit.unit, (Unit.unit, ((0 : Int), ((0 : Int), Unit.unit))))))))))))), (t, (ar, (fs, (fa, (([] : List Bool), Unit.unit))))))) (([] : List Bool) ++ (List.map (fun x => (x == (1 : Int))) (List.drop 0 (((List.getD l (Int.toNat ((((List.length l) : Nat) : Int) - (3 : Int) : Int)) (ByteArray.empty, (false, ([] : List Int))))).2).2))))).2).2).2).2).1), (1000004008, .row tB 35 (((((((putFl ((Unit.unit, (Unit.unit, (Unit.unit, (Unit.unit, ((((((z13).2).2).2).2).1, (((((((z13).2).2).2).2).2).1, ((((((((z13).2).2).2).2).2).2).1, (Unit.unit, (Unit.unit, (Unit.unit, (Unit.unit, (((((((((((((z13).2).2).2).2).2).2).2).2).2).2).2).1, ((((((((((((((z13).2).2).2).2).2).2).2).2).2).2).2).2).1, Unit.unit))))))))))))), ((pL, (pN, (Unit.unit, (Unit.unit, ((0 : Int), ((0 : Int), ((0 : Int), (Unit.unit, (Unit.unit, (Unit.unit, (Unit.unit, ((0 : Int), ((0 : Int), Unit.unit))))))))))))), (t, (ar, (fs, (fa, (([] : List Bool), Unit.unit))))))) (([] : List Bool) ++ (List.map (fun x => (x == (1 : Int))) (List.drop 0 (((List.getD l (Int.toNat ((((List.length l) : Nat) : Int) - (3 : Int) : Int)) (ByteArray.empty, (false, ([] : List Int))))).2).2))))).2).2).2).2).2).1), (1000004009, .row Ty.bool 4 ((((((((putFl ((Unit.unit, (Unit.unit, (Unit.unit, (Unit.unit, ((((((z13).2).2).2).2).1, (((((((z13).2).2).2).2).2).1, ((((((((z13).2).2).2).2).2).2).1, (Unit.unit, (Unit.unit, (Unit.unit, (Unit.unit, (((((((((((((z13).2).2).2).2).2).2).2).2).2).2).2).1, ((((((((((((((z13).2).2).2).2).2).2).2).2).2).2).2).2).1, Unit.unit))))))))))))), ((pL, (pN, (Unit.unit, (Unit.unit, ((0 : Int), ((0 : Int), ((0 : Int), (Unit.unit, (Unit.unit, (Unit.unit, (Unit.unit, ((0 : Int), ((0 : Int), Unit.unit))))))))))))), (t, (ar, (fs, (fa, (([] : List Bool), Unit.unit))))))) (([] : List Bool) ++ (List.map (fun x => (x == (1 : Int))) (List.drop 0 (((List.getD l (Int.toNat ((((List.length l) : Nat) : Int) - (3 : Int) : Int)) (ByteArray.empty, (false, ([] : List Int))))).2).2))))).2).2).2).2).2).2).1)]⟩))))) (by kernel_rfl) ?_
  have h3 := madeOk_at hok (l.length - 3)
  rw [e3]
  refine .lnd (by omega) (.lneed (inR_of (by omega) (by omega)) (.lnd ⟨rfl, by show ((l.getD (l.length - 3) dF).2.2.length : Int) ≤ _; omega, by omega, by omega, by simp⟩ ?_))
  refine Gives.goto (σ' := q30x.st ((l, (), (), ()), (z13, (pL, pN, (), (), (0 : Int), (0 : Int), (0 : Int), (), (), (), (), (0 : Int), (0 : Int), ()), t, ar, fs, fa, (l.getD (l.length - 3) dF).2.2.map (fun x : Int => x == 1), ()))) (by rw [List.drop_zero]; rfl) ?_
  generalize (l.getD (l.length - 3) dF).2.2.map (fun x : Int => x == 1) = ff
  refine Gives.seq (by kernel_rfl) ?_
  refine Gives.run (t' := .need (decide (((-(9223372036854775808 : Int) : Int) ≤ ((((List.length l) : Nat) : Int) - (1 : Int) : Int)) ∧ (((((List.length l) : Nat) : Int) - (1 : Int) : Int) ≤ (9223372036854775807 : Int)))) (.need (inR ((((List.length l) : Nat) : Int) - (1 : Int) : Int) (List.length l)) (.need (decide ((List.length (((List.getD l (Int.toNat ((((List.length l) : Nat) : Int) - (1 : Int) : Int)) (ByteArray.empty, (false, ([] : List Int))))).2).2) ≤ 1000000000)) (.ret (.nx, ⟨143, [(0, rL tFile l), (2, .e (.c (.np 2 0))), (4, .e (.c (.np 4 0)))], [(2, .cells 47 [.nil, .nil, .nil, .nil, .d (.v (.int .i64 (((((z13).2).2).2).2).1)), .d (.v (.int .i64 ((((((z13).2).2).2).2).2).1)), .d (.v (.int .i64 (((((((z13).2).2).2).2).2).2).1)), .nil, .nil, .nil, .nil, .d (.v (.int .i64 ((((((((((((z13).2).2).2).2).2).2).2).2).2).2).2).1)), .d (.v (.int .u16 (((((((((((((z13).2).2).2).2).2).2).2).2).2).2).2).2).1))]), (4, .cells 47 [.d (.sl tInst pL), .d (.sl Ty.str pN), .row 1000004002, .row 1000004003, .d (.v (.int .i64 (0 : Int))), .d (.v (.int .i64 (0 : Int))), .d (.v (.int .i64 (0 : Int))), .row 1000004007, .row 1000004008, .row 1000004009, .d (.sl tEv ((untraceF (((List.getD l (Int.toNat ((((List.length l) : Nat) : Int) - (1 : Int) : Int)) (ByteArray.empty, (false, ([] : List Int))))).2).2)).1), .d (.v (.int .i64 (((untraceF (((List.getD l (Int.toNat ((((List.length l) : Nat) : Int) - (1 : Int) : Int)) (ByteArray.empty, (false, ([] : List Int))))).2).2)).2).1)), .d (.v (.int .u16 (((untraceF (((List.getD l (Int.toNat ((((List.length l) : Nat) : Int) - (1 : Int) : Int)) (ByteArray.empty, (false, ([] : List Int))))).2).2)).2).2))]), (1000004002, .row tEnt 30 t), (1000004003, .row tI 3 ar), (1000004007, .row tB 35 fs), (1000004008, .row tB 35 fa), (1000004009, .row Ty.bool 4 ff)]⟩))))) (by kernel_rfl) ?_
  have e1 : ((l.length : Int) - 1).toNat = l.length - 1 := by omega
  have h1' := madeOk_at hok (l.length - 1)
  rw [e1]
  refine .lnd (by omega) (.lneed (inR_of (by omega) (by omega)) (.lnd h1'.2.2 ?_))
  refine Gives.goto (σ' := ⟨143, [(0, rL tFile l), (2, .e (.c (.np 2 0))), (4, .e (.c (.np 4 0)))], [(2, .cells 47 zC), (4, .cells 47 [.d (.sl tInst pL), .d (.sl .str pN), .row (CB4 + 2), .row (CB4 + 3), .d (.v (.int .i64 0)), .d (.v (.int .i64 0)), .d (.v (.int .i64 0)), .row (CB4 + 7), .row (CB4 + 8), .row (CB4 + 9), .d (.sl tEv (untraceF (l.getD (l.length - 1) dF).2.2).1), .d (.v (.int .i64 (untraceF (l.getD (l.length - 1) dF).2.2).2.1)), .d (.v (.int .u16 (untraceF (l.getD (l.length - 1) dF).2.2).2.2))]),
     (CB4 + 2, .row tEnt 30 t), (CB4 + 3, .row tI 3 ar), (CB4 + 7, .row tB 35 fs), (CB4 + 8, .row tB 35 fa), (CB4 + 9, .row .bool 4 ff)]⟩) rfl ?_
  generalize untraceF (l.getD (l.length - 1) dF).2.2 = tr
  obtain ⟨tl, te, tc⟩ := tr
  refine Gives.seq (by kernel_rfl) ?_
  refine Gives.run (t' := .ret (.nx, ⟨143, [(0, rL tFile l), (2, .e (.c (.np 2 0))), (4, .e (.c (.np 4 0))), (13, rI (((List.length l) : Nat) : Int))], [(2, .cells 47 [.nil, .nil, .nil, .nil, .d (.v (.int .i64 (0 : Int))), .d (.v (.int .i64 (0 : Int))), .d (.v (.int .i64 (0 : Int))), .nil, .nil, .nil, .nil, .d (.v (.int .i64 (0 : Int))), .d (.v (.int .u16 (0 : Int)))]), (4, .cells 47 [.d (.sl tInst pL), .d (.sl Ty.str pN), .row 1000004002, .row 1000004003, .d (.v (.int .i64 (0 : Int))), .d (.v (.int .i64 (0 : Int))), .d (.v (.int .i64 (0 : Int))), .row 1000004007, .row 1000004008, .row 1000004009, .d (.sl tEv tl), .d (.v (.int .i64 te)), .d (.v (.int .u16 tc))]), (1000004002, .row tEnt 30 t), (1000004003, .row tI 3 ar), (1000004007, .row tB 35 fs), (1000004008, .row tB 35 fa), (1000004009, .row Ty.bool 4 ff)]⟩)) (by kernel_rfl) ?_
  refine Gives.goto rfl (Gives.seq (by kernel_rfl) ?_)
  refine Gives.run (t' := .need (decide (((-(9223372036854775808 : Int) : Int) ≤ ((((List.length l) : Nat) : Int) - (2 : Int) : Int)) ∧ (((((List.length l) : Nat) : Int) - (2 : Int) : Int) ≤ (9223372036854775807 : Int)))) (.need (inR ((((List.length l) : Nat) : Int) - (2 : Int) : Int) (List.length l)) (.need (decide (((List.length ((((imgO ((pL, (pN, (Unit.unit, (Unit.unit, ((0 : Int), ((0 : Int), ((0 : Int), (Unit.unit, (Unit.unit, (Unit.unit, (tl, (te, (tc, Unit.unit))))))))))))), (t, (ar, (fs, (fa, (ff, Unit.unit)))))))).2).1).1) ≤ 1000000) ∧ ((List.length (((((imgO ((pL, (pN, (Unit.unit, (Unit.unit, ((0 : Int), ((0 : Int), ((0 : Int), (Unit.unit, (Unit.unit, (Unit.unit, (tl, (te, (tc, Unit.unit))))))))))))), (t, (ar, (fs, (fa, (ff, Unit.unit)))))))).2).1).2).1) ≤ 1000000))) (.ret (.nx, ⟨143, [(2, .e (.c (.np 2 0))), (4, .e (.c (.np 4 0))), (14, rB ((unkF (((imgO ((pL, (pN, (Unit.unit, (Unit.unit, ((0 : Int), ((0 : Int), ((0 : Int), (Unit.unit, (Unit.unit, (Unit.unit, (tl, (te, (tc, Unit.unit))))))))))))), (t, (ar, (fs, (fa, (ff, Unit.unit)))))))).2).1 (((List.getD l (Int.toNat ((((List.length l) : Nat) : Int) - (2 : Int) : Int)) (ByteArray.empty, (false, ([] : List Int))))).2).2)).1)], [(2, .cells 47 [.nil, .nil, .nil, .nil, .d (.v (.int .i64 (0 : Int))), .d (.v (.int .i64 (0 : Int))), .d (.v (.int .i64 (0 : Int))), .nil, .nil, .nil, .nil, .d (.v (.int .i64 (0 : Int))), .d (.v (.int .u16 (0 : Int)))]), (4, .cells 47 [.d (.sl tInst (((withCls (imgO ((pL, (pN, (Unit.unit, (Unit.unit, ((0 : Int), ((0 : Int), ((0 : Int), (Unit.unit, (Unit.unit, (Unit.unit, (tl, (te, (tc, Unit.unit))))))))))))), (t, (ar, (fs, (fa, (ff, Unit.unit))))))) ((unkF (((imgO ((pL, (pN, (Unit.unit, (Unit.unit, ((0 : Int), ((0 : Int), ((0 : Int), (Unit.unit, (Unit.unit, (Unit.unit, (tl, (te, (tc, Unit.unit))))))))))))), (t, (ar, (fs, (fa, (ff, Unit.unit)))))))).2).1 (((List.getD l (Int.toNat ((((List.length l) : Nat) : Int) - (2 : Int) : Int)) (ByteArray.empty, (false, ([] : List Int))))).2).2)).2)).1).1), .d (.sl Ty.str (((withCls (imgO ((pL, (pN, (Unit.unit, (Unit.unit, ((0 : Int), ((0 : Int), ((0 : Int), (Unit.unit, (Unit.unit, (Unit.unit, (tl, (te, (tc, Unit.unit))))))))))))), (t, (ar, (fs, (fa, (ff, Unit.unit))))))) ((unkF (((imgO ((pL, (pN, (Unit.unit, (Unit.unit, ((0 : Int), ((0 : Int), ((0 : Int), (Unit.unit, (Unit.unit, (Unit.unit, (tl, (te, (tc, Unit.unit))))))))))))), (t, (ar, (fs, (fa, (ff, Unit.unit)))))))).2).1 (((List.getD l (Int.toNat ((((List.length l) : Nat) : Int) - (2 : Int) : Int)) (ByteArray.empty, (false, ([] : List Int))))).2).2)).2)).1).2), .row 1000004002, .row 1000004003, .d (.v (.int .i64 ((((((withCls (imgO ((pL, (pN, (Unit.unit, (Unit.unit, ((0 : Int), ((0 : Int), ((0 : Int), (Unit.unit, (Unit.unit, (Unit.unit, (tl, (te, (tc, Unit.unit))))))))))))), (t, (ar, (fs, (fa, (ff, Unit.unit))))))) ((unkF (((imgO ((pL, (pN, (Unit.unit, (Unit.unit, ((0 : Int), ((0 : Int), ((0 : Int), (Unit.unit, (Unit.unit, (Unit.unit, (tl, (te, (tc, Unit.unit))))))))))))), (t, (ar, (fs, (fa, (ff, Unit.unit)))))))).2).1 (((List.getD l (Int.toNat ((((List.length l) : Nat) : Int) - (2 : Int) : Int)) (ByteArray.empty, (false, ([] : List Int))))).2).2)).2)).2).1).2).2).1)), .d (.v (.int .i64 (((((((withCls (imgO ((pL, (pN, (Unit.unit, (Unit.unit, ((0 : Int), ((0 : Int), ((0 : Int), (Unit.unit, (Unit.unit, (Unit.unit, (tl, (te, (tc, Unit.unit))))))))))))), (t, (ar, (fs, (fa, (ff, Unit.unit))))))) ((unkF (((imgO ((pL, (pN, (Unit.unit, (Unit.unit, ((0 : Int), ((0 : Int), ((0 : Int), (Unit.unit, (Unit.unit, (Unit.unit, (tl, (te, (tc, Unit.unit))))))))))))), (t, (ar, (fs, (fa, (ff, Unit.unit)))))))).2).1 (((List.getD l (Int.toNat ((((List.length l) : Nat) : Int) - (2 : Int) : Int)) (ByteArray.empty, (false, ([] : List Int))))).2).2)).2)).2).1).2).2).2).1)), .d (.v (.int .i64 (((((((withCls (imgO ((pL, (pN, (Unit.unit, (Unit.unit, ((0 : Int), ((0 : Int), ((0 : Int), (Unit.unit, (Unit.unit, (Unit.unit, (tl, (te, (tc, Unit.unit))))))))))))), (t, (ar, (fs, (fa, (ff, Unit.unit))))))) ((unkF (((imgO ((pL, (pN, (Unit.unit, (Unit.unit, ((0 : Int), ((0 : Int), ((0 : Int), (Unit.unit, (Unit.unit, (Unit.unit, (tl, (te, (tc, Unit.unit))))))))))))), (t, (ar, (fs, (fa, (ff, Unit.unit)))))))).2).1 (((List.getD l (Int.toNat ((((List.length l) : Nat) : Int) - (2 : Int) : Int)) (ByteArray.empty, (false, ([] : List Int))))).2).2)).2)).2).1).2).2).2).2)), .row 1000004007, .row 1000004008, .row 1000004009, .d (.sl tEv (((((withCls (imgO ((pL, (pN, (Unit.unit, (Unit.unit, ((0 : Int), ((0 : Int), ((0 : Int), (Unit.unit, (Unit.unit, (Unit.unit, (tl, (te, (tc, Unit.unit))))))))))))), (t, (ar, (fs, (fa, (ff, Unit.unit))))))) ((unkF (((imgO ((pL, (pN, (Unit.unit, (Unit.unit, ((0 : Int), ((0 : Int), ((0 : Int), (Unit.unit, (Unit.unit, (Unit.unit, (tl, (te, (tc, Unit.unit))))))))))))), (t, (ar, (fs, (fa, (ff, Unit.unit)))))))).2).1 (((List.getD l (Int.toNat ((((List.length l) : Nat) : Int) - (2 : Int) : Int)) (ByteArray.empty, (false, ([] : List Int))))).2).2)).2)).2).2).2).1), .d (.v (.int .i64 ((((((withCls (imgO ((pL, (pN, (Unit.unit, (Unit.unit, ((0 : Int), ((0 : Int), ((0 : Int), (Unit.unit, (Unit.unit, (Unit.unit, (tl, (te, (tc, Unit.unit))))))))))))), (t, (ar, (fs, (fa, (ff, Unit.unit))))))) ((unkF (((imgO ((pL, (pN, (Unit.unit, (Unit.unit, ((0 : Int), ((0 : Int), ((0 : Int), (Unit.unit, (Unit.unit, (Unit.unit, (tl, (te, (tc, Unit.unit))))))))))))), (t, (ar, (fs, (fa, (ff, Unit.unit)))))))).2).1 (((List.getD l (Int.toNat ((((List.length l) : Nat) : Int) - (2 : Int) : Int)) (ByteArray.empty, (false, ([] : List Int))))).2).2)).2)).2).2).2).2).1)), .d (.v (.int .u16 ((((((withCls (imgO ((pL, (pN, (Unit.unit, (Unit.unit, ((0 : Int), ((0 : Int), ((0 : Int), (Unit.unit, (Unit.unit, (Unit.unit, (tl, (te, (tc, Unit.unit))))))))))))), (t, (ar, (fs, (fa, (ff, Unit.unit))))))) ((unkF (((imgO ((pL, (pN, (Unit.unit, (Unit.unit, ((0 : Int), ((0 : Int), ((0 : Int), (Unit.unit, (Unit.unit, (Unit.unit, (tl, (te, (tc, Unit.unit))))))))))))), (t, (ar, (fs, (fa, (ff, Unit.unit)))))))).2).1 (((List.getD l (Int.toNat ((((List.length l) : Nat) : Int) - (2 : Int) : Int)) (ByteArray.empty, (false, ([] : List Int))))).2).2)).2)).2).2).2).2).2))]), (1000004002, .row tEnt 30 ((((withCls (imgO ((pL, (pN, (Unit.unit, (Unit.unit, ((0 : Int), ((0 : Int), ((0 : Int), (Unit.unit, (Unit.unit, (Unit.unit, (tl, (te, (tc, Unit.unit))))))))))))), (t, (ar, (fs, (fa, (ff, Unit.unit))))))) ((unkF (((imgO ((pL, (pN, (Unit.unit, (Unit.unit, ((0 : Int), ((0 : Int), ((0 : Int), (Unit.unit, (Unit.unit, (Unit.unit, (tl, (te, (tc, Unit.unit))))))))))))), (t, (ar, (fs, (fa, (ff, Unit.unit)))))))).2).1 (((List.getD l (Int.toNat ((((List.length l) : Nat) : Int) - (2 : Int) : Int)) (ByteArray.empty, (false, ([] : List Int))))).2).2)).2)).2).1).1), (1000004003, .row tI 3 (((((withCls (imgO ((pL, (pN, (Unit.unit, (Unit.unit, ((0 : Int), ((0 : Int), ((0 : Int), (Unit.unit, (Unit.unit, (Unit.unit, (tl, (te, (tc, Unit.unit))))))))))))), (t, (ar, (fs, (fa, (ff, Unit.unit))))))) ((unkF (((imgO ((pL, (pN, (Unit.unit, (Unit.unit, ((0 : Int), ((0 : Int), ((0 : Int), (Unit.unit, (Unit.unit, (Unit.unit, (tl, (te, (tc, Unit.unit))))))))))))), (t, (ar, (fs, (fa, (ff, Unit.unit)))))))).2).1 (((List.getD l (Int.toNat ((((List.length l) : Nat) : Int) - (2 : Int) : Int)) (ByteArray.empty, (false, ([] : List Int))))).2).2)).2)).2).1).2).1), (1000004007, .row tB 35 (((((withCls (imgO ((pL, (pN, (Unit.unit, (Unit.unit, ((0 : Int), ((0 : Int), ((0 : Int), (Unit.unit, (Unit.unit, (Unit.unit, (tl, (te, (tc, Unit.unit))))))))))))), (t, (ar, (fs, (fa, (ff, Unit.unit))))))) ((unkF (((imgO ((pL, (pN, (Unit.unit, (Unit.unit, ((0 : Int), ((0 : Int), ((0 : Int), (Unit.unit, (Unit.unit, (Unit.unit, (tl, (te, (tc, Unit.unit))))))))))))), (t, (ar, (fs, (fa, (ff, Unit.unit)))))))).2).1 (((List.getD l (Int.toNat ((((List.length l) : Nat) : Int) - (2 : Int) : Int)) (ByteArray.empty, (false, ([] : List Int))))).2).2)).2)).2).2).1).1), (1000004008, .row tB 35 ((((((withCls (imgO ((pL, (pN, (Unit.unit, (Unit.unit, ((0 : Int), ((0 : Int), ((0 : Int), (Unit.unit, (Unit.unit, (Unit.unit, (tl, (te, (tc, Unit.unit))))))))))))), (t, (ar, (fs, (fa, (ff, Unit.unit))))))) ((unkF (((imgO ((pL, (pN, (Unit.unit, (Unit.unit, ((0 : Int), ((0 : Int), ((0 : Int), (Unit.unit, (Unit.unit, (Unit.unit, (tl, (te, (tc, Unit.unit))))))))))))), (t, (ar, (fs, (fa, (ff, Unit.unit)))))))).2).1 (((List.getD l (Int.toNat ((((List.length l) : Nat) : Int) - (2 : Int) : Int)) (ByteArray.empty, (false, ([] : List Int))))).2).2)).2)).2).2).1).2).1), (1000004009, .row Ty.bool 4 ((((((withCls (imgO ((pL, (pN, (Unit.unit, (Unit.unit, ((0 : Int), ((0 : Int), ((0 : Int), (Unit.unit, (Unit.unit, (Unit.unit, (tl, (te, (tc, Unit.unit))))))))))))), (t, (ar, (fs, (fa, (ff, Unit.unit))))))) ((unkF (((imgO ((pL, (pN, (Unit.unit, (Unit.unit, ((0 : Int), ((0 : Int), ((0 : Int), (Unit.unit, (Unit.unit, (Unit.unit, (tl, (te, (tc, Unit.unit))))))))))))), (t, (ar, (fs, (fa, (ff, Unit.unit)))))))).2).1 (((List.getD l (Int.toNat ((((List.length l) : Nat) : Int) - (2 : Int) : Int)) (ByteArray.empty, (false, ([] : List Int))))).2).2)).2)).2).2).1).2).2)]⟩))))) (by kernel_rfl) ?_
  have e2 : ((l.length : Int) - 2).toNat = l.length - 2 := by omega
  have hA1 : t.length ≤ l.length := hA.1
  have hA2 : ar.length ≤ l.length := hA.2
  rw [e2]
  refine .lnd (by omega) (.lneed (inR_of (by omega) (by omega)) (.lnd ⟨by show t.length ≤ _; omega, by show ar.length ≤ _; omega⟩ (Gives.goto rfl ?_)))
  show Gives _ (.ret (SV.tup [eImg ((pL, pN), (unkF (t, ar, 0, 0, 0) (l.getD (l.length - 2) dF).2.2).2, (fs, fa, ff), (tl, te, tc)), eB (unkF (t, ar, 0, 0, 0) (l.getD (l.length - 2) dF).2.2).1], (⟨0, [], []⟩ : St)))
  exact Gives.of_eq (t' := .need true (.need true (.ret (SV.tup [eImg ((pL, pN), (unkF (t, ar, 0, 0, 0) (l.getD (l.length - 2) dF).2.2).2, (fs, fa, ff), (tl, te, tc)), eB (unkF (t, ar, 0, 0, 0) (l.getD (l.length - 2) dF).2.2).1], (⟨0, [], []⟩ : St))))) (by kernel_rfl) (.need rfl (.need rfl (.refl _)))
theorem CVR.nilL {M : Snap} {β : Plc} {t : Ty} {v : Value} (h : CVR M β .nil v) : CVR M β (.d (.sl t [])) v := by
  have h : v = .slice none 0 0 := h
  subst h; exact DR.nil t
theorem zero_img {M : Snap} {β : Plc} {v : Value} (hv : EVR M β zeroA v) : EVR M β (eImg zeroImg) v := by
  obtain ⟨ws, e2, hw⟩ := hv
  refine ⟨ws, e2, ?_⟩
  generalize ws.toList = xs at hw ⊢
  have st : ∀ {x y : CV} {l l' : List CV}, (∀ v, CVR M β x v → CVR M β y v) → (∀ vs, CVs M β l vs → CVs M β l' vs) → ∀ vs, CVs M β (x :: l) vs → CVs M β (y :: l') vs := fun h1 h2 vs h => by
    cases h with
    | cons a b c => exact .cons (h1 _ a) b (h2 _ c)
  exact st (fun v h => CVR.nilL (M := M) (β := β) (t := tInst) h) (st (fun v h => CVR.nilL (M := M) (β := β) (t := .str) h) (st (fun v h => CVR.nilL (M := M) (β := β) (t := tEnt) h) (st (fun v h => CVR.nilL (M := M) (β := β) (t := tI) h) (st (fun _ h => h) (st (fun _ h => h) (st (fun _ h => h)
    (st (fun v h => CVR.nilL (M := M) (β := β) (t := tB) h) (st (fun v h => CVR.nilL (M := M) (β := β) (t := tB) h) (st (fun v h => CVR.nilL (M := M) (β := β) (t := .bool) h) (st (fun v h => CVR.nilL (M := M) (β := β) (t := tEv) h) (fun _ h => h))))))))))) _ hw
theorem made_ok : CtrOk Tryd.prog 15 madeCtr := by
  refine CtrOk.lessC made0_ok ?_
  rintro ⟨(l : List File), ⟨⟩⟩
  show LessT _ (.need (madeOk l) (.ret (SV.tup [eImg (madeF l).2, eB (madeF l).1], (⟨0, [], []⟩ : St))))
  refine .rneed fun h => .need h (.ite (fun hz => ?_) (fun hz => ?_))
  · have hz := of_decide_eq_true hz
    rw [show madeF l = (false, zeroImg) from if_pos hz]
    exact .ret (Less.tup1 fun M β v hv => zero_img hv)
  · have hz := of_decide_eq_false hz
    rw [show madeF l = ((unkOf l).1, made2 l) from if_neg hz]
    exact .ret (.refl _)
end Go.Proofs.YtdngaaploooceaaDoor.Sy
