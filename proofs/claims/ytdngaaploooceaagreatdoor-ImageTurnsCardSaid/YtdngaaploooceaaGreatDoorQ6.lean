/- Contracts: image.Read. -/
import Derived.Test.YtdngaaploooceaaGreatDoorQ5
set_option maxRecDepth 100000
namespace Go.Proofs.YtdngaaploooceaaGreatDoor.Sy
open Go.RowKit Kit Go.Proofs
/-! ### bytes that are bytes -/
theorem w8_u8 (n : Int) : u8 (w8 n) = true := u8_iff.2 (u8_wrap n)
theorem hi8_u8 (n : Int) : u8 (hi8 n) = true := u8_iff.2 (u8_wrap _)
theorem u8s_flat {α : Type} {f : α → List Int} {l : List α} (h : ∀ x ∈ l, u8s (f x) = true) : u8s (l.flatMap f) = true := by
  induction l with
  | nil => rfl
  | cons x r ih => rw [List.flatMap_cons, u8s_app, h x (List.mem_cons_self ..), ih fun y hy => h y (List.mem_cons_of_mem _ hy)]; rfl
theorem u8s_cons {x : Int} {l : List Int} (h : u8 x = true) (hl : u8s l = true) : u8s (x :: l) = true := by
  show (u8 x && u8s l) = true; rw [h, hl]; rfl
theorem pBytes_u8 (p : Prog) : u8s (pBytes p) = true := by
  unfold pBytes
  rw [u8s_app, u8s_app, u8s_app]
  rw [u8s_flat (f := nameB) fun s _ => u8s_cons (w8_u8 _) (u8s_strB s), u8s_flat (f := instB) fun i _ => u8s_cons (w8_u8 _) (u8s_cons (hi8_u8 _) (u8s_cons (w8_u8 _) rfl))]
  rw [u8s_cons (x := 88) rfl (u8s_cons (x := 82) rfl (u8s_cons (w8_u8 p.2.length) rfl)), u8s_cons (w8_u8 p.1.length) rfl]; rfl
theorem twoF_u8 (n : Int) : u8s (twoF n) = true := u8s_cons (hi8_u8 n) (u8s_cons (w8_u8 n) rfl)
theorem truth_u8 (b : Bool) : u8 (truth b) = true := by cases b <;> rfl
theorem kindF_u8 (c : Cls) : u8s (kindF c) = true := by
  unfold kindF
  rw [u8s_app, u8s_app, twoF_u8, u8s_cons (w8_u8 _) (u8s_cons (w8_u8 _) rfl)]
  have : u8s ((capsC c).map w8) = true := List.all_eq_true.2 fun x hx => by obtain ⟨y, _, rfl⟩ := List.mem_map.1 hx; exact w8_u8 y
  rw [this]; rfl
theorem traceF_u8 (t : Trc) : u8s (traceF t) = true := by
  unfold traceF
  rw [u8s_app, u8s_app, twoF_u8, u8s_flat (f := evB) fun e _ => u8s_cons (truth_u8 _) (twoF_u8 _), u8s_cons (w8_u8 _) rfl]; rfl
theorem fileB_u8 {f : File} (h : u8s f.2.2 = true) : u8s (fileB f) = true := by
  unfold fileB padF
  rw [u8s_app, u8s_app, headF_u8, h, u8s_rep]; rfl
theorem arcF_u8 {l : List File} (h : ∀ f ∈ l, u8s f.2.2 = true) : u8s (arcF l) = true := by
  unfold arcF
  rw [u8s_app, u8s_flat fun f hf => fileB_u8 (h f hf), u8s_rep]; rfl
theorem treeFs_u8 : ∀ (t : List Ent) (fs : List (List Int)), (∀ b ∈ fs, u8s b = true) → ∀ f ∈ treeFs t fs, u8s f.2.2 = true
  | [], _, _, f, hf => by cases hf
  | x :: r, fs, h, f, hf => by
    rw [treeFs_cons] at hf
    split at hf
    · rcases List.mem_cons.1 hf with rfl | hf
      · rfl
      · exact treeFs_u8 r fs h f hf
    · rcases List.mem_cons.1 hf with rfl | hf
      · cases fs with
        | nil => rfl
        | cons b bs' => exact h b (List.mem_cons_self ..)
      · refine treeFs_u8 r fs.tail (fun b hb => h b (List.mem_of_mem_tail hb)) f hf
theorem argFs_u8 : ∀ (l : List (List Int)) (k : Int), (∀ b ∈ l, u8s b = true) → ∀ f ∈ argFs k l, u8s f.2.2 = true
  | [], _, _, f, hf => by cases hf
  | x :: r, k, h, f, hf => by
    rcases List.mem_cons.1 hf with rfl | hf
    · exact h x (List.mem_cons_self ..)
    · exact argFs_u8 r (k + 1) (fun b hb => h b (List.mem_cons_of_mem _ hb)) f hf
/-- an image's texts are bytes -/
def imgU (m : Img) : Bool := m.2.2.1.1.all u8s && m.2.2.1.2.1.all u8s
theorem imgFs_u8 {m : Img} (h : imgU m = true) : ∀ f ∈ imgFs m, u8s f.2.2 = true := by
  simp only [imgU, Bool.and_eq_true] at h
  intro f hf
  unfold imgFs filesF at hf
  rcases List.mem_append.1 hf with hf | hf
  · rcases List.mem_cons.1 hf with rfl | hf
    · exact pBytes_u8 _
    · rcases List.mem_append.1 hf with hf | hf
      · exact treeFs_u8 _ _ (fun b hb => List.all_eq_true.1 h.1 b hb) f hf
      · exact argFs_u8 _ _ (fun b hb => List.all_eq_true.1 h.2 b hb) f hf
  · simp only [List.mem_cons, List.not_mem_nil, or_false] at hf
    rcases hf with rfl | rfl | rfl
    · exact List.all_eq_true.2 fun x hx => by obtain ⟨y, _, rfl⟩ := List.mem_map.1 hx; exact truth_u8 y
    · exact kindF_u8 _
    · exact traceF_u8 _
theorem writeB_u8 {m : Img} (h : imgU m = true) : u8s (writeB m) = true := arcF_u8 (imgFs_u8 h)
theorem foldF_u8 : ∀ (L : List File) (a : Acc), (∀ f ∈ L, u8s f.2.2 = true) → (∀ b ∈ a.2.2.1, u8s b = true) ∧ (∀ b ∈ a.2.2.2, u8s b = true) → (∀ b ∈ (L.foldl addF a).2.2.1, u8s b = true) ∧ (∀ b ∈ (L.foldl addF a).2.2.2, u8s b = true)
  | [], a, _, ha => ha
  | f :: r, a, h, ha => by
    rw [List.foldl_cons]
    refine foldF_u8 r _ (fun g hg => h g (List.mem_cons_of_mem _ hg)) ?_
    have hf := h f (List.mem_cons_self ..)
    unfold addF
    split
    · split
      · exact ha
      · exact ⟨fun b hb => by rcases List.mem_append.1 hb with hb | hb; exact ha.1 b hb; rw [List.mem_singleton.1 hb]; exact hf, ha.2⟩
    · exact ⟨ha.1, fun b hb => by rcases List.mem_append.1 hb with hb | hb; exact ha.2 b hb; rw [List.mem_singleton.1 hb]; exact hf⟩
theorem made2_u8 {l : List File} (h : madeOk l = true) : imgU (made2 l) = true := by
  have hm : ∀ f ∈ mids l, u8s f.2.2 = true := fun f hf => by
    simp only [madeOk, Bool.and_eq_true] at h
    have := List.all_eq_true.1 h.2 f (List.mem_of_mem_take (List.mem_of_mem_drop hf))
    simp only [Bool.and_eq_true] at this
    exact this.1.2
  have := foldF_u8 (mids l) ([], [], [], []) hm ⟨fun b hb => (by cases hb), fun b hb => (by cases hb)⟩
  unfold imgU made2 accF
  rw [Bool.and_eq_true]
  exact ⟨List.all_eq_true.2 this.1, List.all_eq_true.2 this.2⟩
theorem madeF_u8 {l : List File} (h : madeOk l = true) : imgU (madeF l).2 = true := by
  unfold madeF
  split
  · rfl
  · exact made2_u8 h
/-- what is read of bytes may be made an image -/
theorem oneE_zero {h r : List Int} (he : oneE h r = 0) : tMay [oneFl h r] = 0 ∧ headF (oneFl h r) = h := by
  unfold oneE at he
  split at he
  · cases he
  split at he
  · cases he
  split at he
  · cases he
  · rename_i hx
    rw [not_or, not_or, Classical.not_not, Classical.not_not] at hx
    exact ⟨hx.1, hx.2.1⟩
theorem oneF'_ok {h r : List Int} (hr : u8s r = true) : (decide ((oneF' h r).1.size ≤ 1000000000) && u8s (oneF' h r).2.2 && decide ((oneF' h r).2.2.length ≤ 1000000000)) = true := by
  unfold oneF'
  split
  · rename_i he
    have h1 := (tMay_zero (oneE_zero he).1).2.2.2.2
    have h2 := of_decide_eq_true (List.all_eq_true.1 h1 _ (List.mem_singleton.2 rfl))
    rw [decide_eq_true (by have := h2.1; omega), decide_eq_true (by have := h2.2; omega)]
    show (true && u8s (r.take _) && true) = true
    rw [u8s_take hr]; rfl
  · rfl
theorem rdL_ok : ∀ (n : Nat) (b : List Int), u8s b = true → ((rdL n b).2.1.all fun f => decide (f.1.size ≤ 1000000000) && u8s f.2.2 && decide (f.2.2.length ≤ 1000000000)) = true ∧ (rdL n b).2.1.length ≤ b.length
  | 0, _, _ => ⟨rfl, Nat.zero_le _⟩
  | n + 1, b, hb => by
    rw [rdL]
    split
    · exact ⟨rfl, Nat.zero_le _⟩
    split
    · exact ⟨rfl, Nat.zero_le _⟩
    split
    · exact ⟨rfl, Nat.zero_le _⟩
    · have ih := rdL_ok n (oneR (b.take 512) (b.drop 512)) (oneR_u8 (u8s_drop hb 512))
      have hl := oneR_len (b.take 512) (b.drop 512)
      rw [List.length_drop] at hl
      refine ⟨?_, by simp only [List.length_cons]; omega⟩
      rw [List.all_cons, oneF'_ok (u8s_drop hb 512), ih.1]; rfl
theorem readT_ok {b : List Int} (hb : u8s b = true) : ((readT b).2.all fun f => decide (f.1.size ≤ 1000000000) && u8s f.2.2 && decide (f.2.2.length ≤ 1000000000)) = true ∧ (readT b).2.length ≤ 1000000 := by
  have h := rdL_ok b.length b hb
  unfold readT
  split
  · exact ⟨rfl, Nat.zero_le _⟩
  split
  · exact ⟨rfl, Nat.zero_le _⟩
  · rename_i hx
    rw [not_or, not_or] at hx
    exact ⟨h.1, by show (rdL b.length b).2.1.length ≤ _; omega⟩
theorem readT_made {b : List Int} (hb : u8s b = true) : madeOk (readT b).2 = true := by
  have h := readT_ok hb
  unfold madeOk
  rw [h.1, decide_eq_true h.2]; rfl

/-! ### image.Read -/
def readI (b : List Int) : Int × Img :=
  if (readT b).1 ≠ 0 then ((readT b).1, zeroImg)
  else if (madeF (readT b).2).1 = false then (4, zeroImg)
  else if writeE (madeF (readT b).2).2 ≠ 0 ∨ ¬ writeB (madeF (readT b).2).2 = b then (4, zeroImg) else (0, (madeF (readT b).2).2)
noncomputable def fn12 := mkFn Tryz.f12
noncomputable def C12 : Cx := ⟨T, FL, [(29, tReadCtr), (30, madeCtr), (8, writeCtr), (31, equalCtr)], [], []⟩
theorem C12_ok : CxOk Tryz.prog C12 := ⟨T_ok, FL_ok, .cons tRead_ok (.cons made_ok (.cons write_ok (.cons equal_ok (.nil _)))), .nil _⟩
def readCtr : Ctr := ctr (one (aVal tB)) fun a => .need (decide (u8s a.1 = true ∧ a.1.length ≤ 1000000000)) (.ret (.tup [eImg (readI a.1).2, eI (readI a.1).1], []))
set_option maxHeartbeats 4000000 in
theorem read0_ok : CtrOk Tryz.prog 12 (ctr (one (aVal tB)) fun a => .need (decide (u8s a.1 = true ∧ a.1.length ≤ 1000000000)) (.ite ((readI a.1).1 != 0) (.ret (.tup [zeroA, eI (readI a.1).1], [])) (.ret (.tup [eImg (readI a.1).2, eI 0], [])))) := by
  refine .mk C12_ok mixed (q := fn12) (.of Tryz.func12 (by kernel_rfl)) (N := 0) (nr := []) .none (by decide) ?_
  rintro ⟨(b : List Int), ⟨⟩⟩ -
  show Gives _ (.need _ (.ite ((readI b).1 != 0) (.ret (SV.tup [zeroA, eI (readI b).1], (⟨0, [], []⟩ : St))) (.ret (SV.tup [eImg (readI b).2, eI 0], (⟨0, [], []⟩ : St)))))
  refine .rnd fun ⟨h1, h2⟩ => ?_
  have h1 : u8s b = true := h1
  have h2 : b.length ≤ 1000000000 := h2
  refine Gives.of_eq (t' := .need (decide (((u8s b) = true) ∧ ((List.length b) ≤ 1000000000))) (.ite (((readT b)).1 != (0 : Int)) (.need true (.ret (.tup [.agg [.nil, .nil, .nil, .nil, .d (.v (.int .i64 (0 : Int))), .d (.v (.int .i64 (0 : Int))), .d (.v (.int .i64 (0 : Int))), .nil, .nil, .nil, .nil, .d (.v (.int .i64 (0 : Int))), .d (.v (.int .u16 (0 : Int)))], .c (.d (.v (.int .i64 ((readT b)).1)))], ⟨0, [], []⟩))) (.need (madeOk ((readT b)).2) (.ite (!((madeF ((readT b)).2)).1) (.need true (.ret (.tup [.agg [.nil, .nil, .nil, .nil, .d (.v (.int .i64 (0 : Int))), .d (.v (.int .i64 (0 : Int))), .d (.v (.int .i64 (0 : Int))), .nil, .nil, .nil, .nil, .d (.v (.int .i64 (0 : Int))), .d (.v (.int .u16 (0 : Int)))], .c (.d (.v (.int .i64 (4 : Int))))], ⟨0, [], []⟩))) (.need true (.ite ((writeE ((madeF ((readT b)).2)).2) != (0 : Int)) (.ite ((writeE ((madeF ((readT b)).2)).2) != (0 : Int)) (.need true (.ret (.tup [.agg [.nil, .nil, .nil, .nil, .d (.v (.int .i64 (0 : Int))), .d (.v (.int .i64 (0 : Int))), .d (.v (.int .i64 (0 : Int))), .nil, .nil, .nil, .nil, .d (.v (.int .i64 (0 : Int))), .d (.v (.int .u16 (0 : Int)))], .c (.d (.v (.int .i64 (4 : Int))))], ⟨0, [], []⟩))) (.need ((u8s ([] : List Int)) && (u8s b)) (.ite (!(([] : List Int) == b)) (.need true (.ret (.tup [.agg [.nil, .nil, .nil, .nil, .d (.v (.int .i64 (0 : Int))), .d (.v (.int .i64 (0 : Int))), .d (.v (.int .i64 (0 : Int))), .nil, .nil, .nil, .nil, .d (.v (.int .i64 (0 : Int))), .d (.v (.int .u16 (0 : Int)))], .c (.d (.v (.int .i64 (4 : Int))))], ⟨0, [], []⟩))) (.need true (.need true (.ret (.tup [.agg [.d (.sl tInst ((((madeF ((readT b)).2)).2).1).1), .d (.sl Ty.str ((((madeF ((readT b)).2)).2).1).2), .d (.sl tEnt (((((madeF ((readT b)).2)).2).2).1).1), .d (.sl tI ((((((madeF ((readT b)).2)).2).2).1).2).1), .d (.v (.int .i64 (((((((madeF ((readT b)).2)).2).2).1).2).2).1)), .d (.v (.int .i64 ((((((((madeF ((readT b)).2)).2).2).1).2).2).2).1)), .d (.v (.int .i64 ((((((((madeF ((readT b)).2)).2).2).1).2).2).2).2)), .d (.sl tB ((((((madeF ((readT b)).2)).2).2).2).1).1), .d (.sl tB (((((((madeF ((readT b)).2)).2).2).2).1).2).1), .d (.sl Ty.bool (((((((madeF ((readT b)).2)).2).2).2).1).2).2), .d (.sl tEv ((((((madeF ((readT b)).2)).2).2).2).2).1), .d (.v (.int .i64 (((((((madeF ((readT b)).2)).2).2).2).2).2).1)), .d (.v (.int .u16 (((((((madeF ((readT b)).2)).2).2).2).2).2).2))], .c (.d (.v (.int .i64 (0 : Int))))], ⟨0, [], []⟩))))))) (.ite false (.need true (.ret (.tup [.agg [.nil, .nil, .nil, .nil, .d (.v (.int .i64 (0 : Int))), .d (.v (.int .i64 (0 : Int))), .d (.v (.int .i64 (0 : Int))), .nil, .nil, .nil, .nil, .d (.v (.int .i64 (0 : Int))), .d (.v (.int .u16 (0 : Int)))], .c (.d (.v (.int .i64 (4 : Int))))], ⟨0, [], []⟩))) (.need ((u8s (writeB ((madeF ((readT b)).2)).2)) && (u8s b)) (.ite (!((writeB ((madeF ((readT b)).2)).2) == b)) (.need true (.ret (.tup [.agg [.nil, .nil, .nil, .nil, .d (.v (.int .i64 (0 : Int))), .d (.v (.int .i64 (0 : Int))), .d (.v (.int .i64 (0 : Int))), .nil, .nil, .nil, .nil, .d (.v (.int .i64 (0 : Int))), .d (.v (.int .u16 (0 : Int)))], .c (.d (.v (.int .i64 (4 : Int))))], ⟨0, [], []⟩))) (.need true (.need true (.ret (.tup [.agg [.d (.sl tInst ((((madeF ((readT b)).2)).2).1).1), .d (.sl Ty.str ((((madeF ((readT b)).2)).2).1).2), .d (.sl tEnt (((((madeF ((readT b)).2)).2).2).1).1), .d (.sl tI ((((((madeF ((readT b)).2)).2).2).1).2).1), .d (.v (.int .i64 (((((((madeF ((readT b)).2)).2).2).1).2).2).1)), .d (.v (.int .i64 ((((((((madeF ((readT b)).2)).2).2).1).2).2).2).1)), .d (.v (.int .i64 ((((((((madeF ((readT b)).2)).2).2).1).2).2).2).2)), .d (.sl tB ((((((madeF ((readT b)).2)).2).2).2).1).1), .d (.sl tB (((((((madeF ((readT b)).2)).2).2).2).1).2).1), .d (.sl Ty.bool (((((((madeF ((readT b)).2)).2).2).2).1).2).2), .d (.sl tEv ((((((madeF ((readT b)).2)).2).2).2).2).1), .d (.v (.int .i64 (((((((madeF ((readT b)).2)).2).2).2).2).2).1)), .d (.v (.int .u16 (((((((madeF ((readT b)).2)).2).2).2).2).2).2))], .c (.d (.v (.int .i64 (0 : Int))))], ⟨0, [], []⟩))))))))))))) (by kernel_rfl) ?_
  refine .nd ⟨h1, h2⟩ ?_
  unfold readI
  refine .ite (fun h => ?_) (fun h => ?_)
  · rw [if_pos (bne_iff_ne.1 h)]; exact .need rfl (.rtt h (.refl _))
  rw [if_neg (by have := bne_eq_false_iff_eq.1 h; exact fun h' => h' this)]
  have hmo := readT_made h1
  have hu := writeB_u8 (madeF_u8 hmo)
  generalize readT b = R at hmo hu ⊢
  obtain ⟨Re, Rl⟩ := R
  have hmo : madeOk Rl = true := hmo
  dsimp only at hu ⊢
  refine .need hmo ?_
  clear hmo
  generalize madeF Rl = m at hu ⊢
  obtain ⟨mk, m⟩ := m
  dsimp only at hu ⊢
  refine .ite (fun h => ?_) (fun h => ?_)
  · rw [if_pos (by rw [← Bool.not_eq_true']; exact h)]; exact .need rfl (.rtt rfl (.refl _))
  rw [if_neg (by rw [show mk = true by rw [← Bool.not_eq_false']; exact h]; simp)]
  refine .need rfl (.ite (fun h => ?_) (fun h => ?_))
  · rw [if_pos (.inl (bne_iff_ne.1 h))]
    exact .tt h (.need rfl (.rtt rfl (.refl _)))
  have hw : writeE m = 0 := bne_eq_false_iff_eq.1 h
  refine .ff rfl (.need (by rw [hu, h1]; rfl) (.ite (fun h' => ?_) (fun h' => ?_)))
  · rw [if_pos (.inr (by simpa using h'))]; exact .need rfl (.rtt rfl (.refl _))
  · rw [if_neg (by rw [not_or, Classical.not_not, Classical.not_not]; exact ⟨hw, by simpa using h'⟩)]
    exact .need rfl (.need rfl (.rff rfl (.refl _)))
theorem read_ok : CtrOk Tryz.prog 12 readCtr := by
  refine CtrOk.lessC read0_ok ?_
  rintro ⟨(b : List Int), ⟨⟩⟩
  show LessT _ (.need _ (.ret (SV.tup [eImg (readI b).2, eI (readI b).1], (⟨0, [], []⟩ : St))))
  refine .rneed fun h => .need h (.ite (fun hz => ?_) (fun hz => ?_))
  · have hz : ¬ (readI b).1 = 0 := bne_iff_ne.1 hz
    have : (readI b).2 = zeroImg := by
      unfold readI at hz ⊢
      split
      · rfl
      split
      · rfl
      split
      · rfl
      · rename_i h1 h2 h3; rw [if_neg h1, if_neg h2, if_neg h3] at hz; exact absurd rfl hz
    rw [this]
    exact .ret (Less.tup1 fun M β v hv => zero_img hv)
  · have hz : (readI b).1 = 0 := bne_eq_false_iff_eq.1 hz
    rw [hz]; exact .ret (.refl _)
end Go.Proofs.YtdngaaploooceaaGreatDoor.Sy

/- Contracts: what is not great. -/
set_option maxRecDepth 100000
namespace Go.Proofs.YtdngaaploooceaaGreatDoor.Sy
open Go.RowKit Kit Go.Proofs

def addW {α : Type} (f : α → Int) : List α → Int → Int
  | [], n => n
  | x :: l, n => addW f l (IntKind.wrap .i64 (n + f x))
noncomputable def fn17 := mkFn Tryz.f17
def C17 : Cx := ⟨T, [], [], [], [WR]⟩
theorem C17_ok : CxOk Tryz.prog C17 := ⟨T_ok, .nil _, .nil _, .nil _⟩
def q17 : Frm := ⟨34, [(1, .ptr tProg), (3, .dat tI), (4, .dat tI)], []⟩
def R17 : q17.V → Tr (Ex × St) := fun (((p : tProg.El), (n : Int), (k : Int), _), _) =>
  .need (decide (0 ≤ k ∧ k ≤ p.2.length ∧ (p.2.length : Int) ≤ 9223372036854775807)) (.ret (.ex 0, ⟨34, [(1, .e (.c (.dp (split tProg p)))), (3, rI (addW (fun s : ByteArray => (s.size : Int)) (p.2.drop k.toNat) n))], []⟩))
def lp17 : LP := [(0, sumP q17 R17)]
theorem lp17_ok : LpsOk 0 C17 [] lp17 fn17.loops := by
  refine .all (by kernel_rfl) ?_
  simp only [lp17, List.forall_mem_cons, List.not_mem_nil, false_imp_iff, implies_true, and_true]
  refine .pat q17 R17 (fun v => (v.1.1.2.length - v.1.2.2.1).toNat) ?_
  rintro ⟨⟨⟨(pL : List (Int × Int)), (pN : List ByteArray)⟩, (n : Int), (k : Int), ⟨⟩⟩, ⟨⟩⟩ ih
  refine Gives.run (t' := .ite (decide (k < (((List.length pN) : Nat) : Int))) (.need (inR k (List.length pN)) (.ret (.nx, ⟨34, [(1, .e (.c (.dp [.sl tInst pL, .sl Ty.str pN]))), (3, rI (IntKind.wrap IntKind.i64 (n + (((ByteArray.size (List.getD pN (Int.toNat k) ByteArray.empty)) : Nat) : Int) : Int))), (4, rI (IntKind.wrap IntKind.i64 (k + (1 : Int) : Int)))], []⟩))) (.ret (.ex 0, ⟨34, [(1, .e (.c (.dp [.sl tInst pL, .sl Ty.str pN]))), (3, rI n)], []⟩))) (by kernel_rfl) ?_
  refine .rnd fun ⟨h1, h2, h3⟩ => ?_
  have h2 : k ≤ pN.length := h2
  have h3 : (pN.length : Int) ≤ 9223372036854775807 := h3
  refine .lif (fun hk => ?_) (fun hk => ?_)
  · have e : (k + 1).toNat = k.toNat + 1 := by omega
    refine .lneed (inR_of h1 (by omega)) ?_
    rw [wrap_i64 (n := k + 1) (by omega)]
    refine Gives.next (σ' := q17.st (((pL, pN), IntKind.wrap .i64 (n + ((pN.getD k.toNat ByteArray.empty).size : Int)), k + 1, ()), ())) (by kernel_rfl) ((ih _ (by simp only; omega)).trans ?_)
    refine .nd ⟨by omega, by show k + 1 ≤ pN.length; omega, h3⟩ ?_
    rw [e, drop_at pN k.toNat ByteArray.empty (by omega)]
    exact .refl _
  · rw [List.drop_eq_nil_of_le (by show pN.length ≤ _; omega)]
    exact .refl _
def small10 (p : List (Int × Int) × List ByteArray) : Bool :=
  decide ((p.1.length : Int) ≤ 500) && (decide ((p.2.length : Int) ≤ 100) && decide (addW (fun s : ByteArray => (s.size : Int)) p.2 0 ≤ 5000))
theorem small10_ok : CtrOk Tryz.prog 17 (ctr (one (aAgg tProg)) fun a => ans (rB (small10 a.1))) := by
  refine .mk C17_ok mixed (q := fn17) (.of Tryz.func17 (by kernel_rfl)) lp17_ok (by decide) ?_
  rintro ⟨⟨(L : List (Int × Int)), (N : List ByteArray)⟩, ⟨⟩⟩ hb
  have hN : N.length ≤ 9223372036854775807 := hb.1.2.1
  have hL : L.length ≤ 9223372036854775807 := hb.1.1.1
  refine Gives.of_eq (t' := .need (decide (((0 : Int) ≤ (0 : Int)) ∧ (((0 : Int) ≤ (((List.length N) : Nat) : Int)) ∧ ((((List.length N) : Nat) : Int) ≤ (9223372036854775807 : Int))))) (.ite (decide ((((List.length L) : Nat) : Int) ≤ (500 : Int))) (.ite (decide ((((List.length N) : Nat) : Int) ≤ (100 : Int))) (.ret (rB (decide ((addW (fun s => (((ByteArray.size s) : Nat) : Int)) (List.drop 0 N) (0 : Int)) ≤ (5000 : Int))), ⟨0, [], []⟩)) (.ret (rB false, ⟨0, [], []⟩))) (.ret (rB false, ⟨0, [], []⟩)))) (by kernel_rfl) ?_
  refine .nd ⟨by omega, by omega, by omega⟩ ?_
  show Gives _ (.ret (rB (small10 (L, N)), St.nil))
  unfold small10
  refine .ite (fun h => ?_) (fun h => ?_)
  · refine .ite (fun h' => ?_) (fun h' => ?_)
    · dsimp only; rw [h, h']; exact .refl _
    · dsimp only; rw [h, h']; exact .refl _
  · dsimp only; rw [h]; exact .refl _
noncomputable def fn18 := mkFn Tryz.f18
def q18 : Frm := ⟨35, [(1, .ptr tCls), (3, .dat tI), (4, .dat tI)], []⟩
def R18 : q18.V → Tr (Ex × St) := fun (((p : tCls.El), (n : Int), (k : Int), _), _) =>
  .need (decide (0 ≤ k ∧ k ≤ p.1.length ∧ (p.1.length : Int) ≤ 9223372036854775807)) (.ret (.ex 0, ⟨35, [(1, .e (.c (.dp (split tCls p)))), (3, rI (addW (fun s : Ent => (s.1.size : Int)) (p.1.drop k.toNat) n))], []⟩))
def lp18 : LP := [(0, sumP q18 R18)]
theorem lp18_ok : LpsOk 0 C17 [] lp18 fn18.loops := by
  refine .all (by kernel_rfl) ?_
  simp only [lp18, List.forall_mem_cons, List.not_mem_nil, false_imp_iff, implies_true, and_true]
  refine .pat q18 R18 (fun v => (v.1.1.1.length - v.1.2.2.1).toNat) ?_
  rintro ⟨⟨⟨(pT : List Ent), (pA : List Int), (c1 : Int), (c2 : Int), (c3 : Int)⟩, (n : Int), (k : Int), ⟨⟩⟩, ⟨⟩⟩ ih
  refine Gives.run (t' := .ite (decide (k < (((List.length pT) : Nat) : Int))) (.need (inR k (List.length pT)) (.ret (.nx, ⟨35, [(1, .e (.c (.dp [.sl tEnt pT, .sl tI pA, .v (.int .i64 c1), .v (.int .i64 c2), .v (.int .i64 c3)]))), (3, rI (IntKind.wrap IntKind.i64 (n + (((ByteArray.size ((List.getD pT (Int.toNat k) (ByteArray.empty, (false, (0 : Int))))).1) : Nat) : Int) : Int))), (4, rI (IntKind.wrap IntKind.i64 (k + (1 : Int) : Int)))], []⟩))) (.ret (.ex 0, ⟨35, [(1, .e (.c (.dp [.sl tEnt pT, .sl tI pA, .v (.int .i64 c1), .v (.int .i64 c2), .v (.int .i64 c3)]))), (3, rI n)], []⟩))) (by kernel_rfl) ?_
  refine .rnd fun ⟨h1, h2, h3⟩ => ?_
  have h2 : k ≤ pT.length := h2
  have h3 : (pT.length : Int) ≤ 9223372036854775807 := h3
  refine .lif (fun hk => ?_) (fun hk => ?_)
  · have e : (k + 1).toNat = k.toNat + 1 := by omega
    refine .lneed (inR_of h1 (by omega)) ?_
    rw [wrap_i64 (n := k + 1) (by omega)]
    refine Gives.next (σ' := q18.st (((pT, pA, c1, c2, c3), IntKind.wrap .i64 (n + ((pT.getD k.toNat (ByteArray.empty, false, 0)).1.size : Int)), k + 1, ()), ())) (by kernel_rfl) ((ih _ (by simp only; omega)).trans ?_)
    refine .nd ⟨by omega, by show k + 1 ≤ pT.length; omega, h3⟩ ?_
    rw [e, drop_at pT k.toNat (ByteArray.empty, false, 0) (by omega)]
    exact .refl _
  · rw [List.drop_eq_nil_of_le (by show pT.length ≤ _; omega)]
    exact .refl _
def small17 (c : Cls) : Bool :=
  decide ((c.1.length : Int) ≤ 60) && (decide (addW (fun s : Ent => (s.1.size : Int)) c.1 0 ≤ 2000) && decide ((c.2.1.length : Int) ≤ 60))
theorem small17_ok : CtrOk Tryz.prog 18 (ctr (one (aAgg tCls)) fun a => ans (rB (small17 a.1))) := by
  refine .mk C17_ok mixed (q := fn18) (.of Tryz.func18 (by kernel_rfl)) lp18_ok (by decide) ?_
  rintro ⟨⟨(pT : List Ent), (pA : List Int), (c1 : Int), (c2 : Int), (c3 : Int)⟩, ⟨⟩⟩ hb
  have hN : pT.length ≤ 9223372036854775807 := hb.1.1.1
  have hL : pA.length ≤ 9223372036854775807 := hb.1.2.1.1
  refine Gives.of_eq (t' := .need (decide (((0 : Int) ≤ (0 : Int)) ∧ (((0 : Int) ≤ (((List.length pT) : Nat) : Int)) ∧ ((((List.length pT) : Nat) : Int) ≤ (9223372036854775807 : Int))))) (.ite (decide ((((List.length pT) : Nat) : Int) ≤ (60 : Int))) (.ite (decide ((addW (fun s => (((ByteArray.size (s).1) : Nat) : Int)) (List.drop 0 pT) (0 : Int)) ≤ (2000 : Int))) (.ret (rB (decide ((((List.length pA) : Nat) : Int) ≤ (60 : Int))), ⟨0, [], []⟩)) (.ret (rB false, ⟨0, [], []⟩))) (.ret (rB false, ⟨0, [], []⟩)))) (by kernel_rfl) ?_
  refine .nd ⟨by omega, by omega, by omega⟩ ?_
  show Gives _ (.ret (rB (small17 (pT, pA, c1, c2, c3)), St.nil))
  unfold small17
  refine .ite (fun h => ?_) (fun h => ?_)
  · refine .ite (fun h' => ?_) (fun h' => ?_)
    · have h' : decide (addW (fun s : Ent => (s.1.size : Int)) pT 0 ≤ 2000) = true := h'
      dsimp only; rw [h, h']; exact .refl _
    · have h' : decide (addW (fun s : Ent => (s.1.size : Int)) pT 0 ≤ 2000) = false := h'
      dsimp only; rw [h, h']; exact .refl _
  · dsimp only; rw [h]; exact .refl _
/-! ### rows of bytes -/
noncomputable def fn34 := mkFn Tryz.f34
def C34 : Cx := ⟨T, [], [], [], []⟩
theorem C34_ok : CxOk Tryz.prog C34 := ⟨T_ok, .nil _, .nil _, .nil _⟩
abbrev tDeed : Ty := .pair tI (.pair (.int .u16) (.pair (.int .u16) (.pair tB (.pair .str .str))))
def q34a : Frm := ⟨78, [(0, .dat (.sl tEnt)), (1, .dat (.sl tB)), (2, .dat (.sl tDeed)), (7, .dat tI)], []⟩
def R34a : q34a.V → Tr (Ex × St) := fun (((l : List Ent), (f : List (List Int)), (d : (Ty.sl tDeed).El), (k : Int), _), _) =>
  .need (decide (d.length = 0 ∧ k = 0)) (.ret (.ex 0, ⟨78, [(0, rL tEnt l), (1, rL tB f)], []⟩))
def q34b : Frm := ⟨78, [(0, .dat (.sl tEnt)), (1, .dat (.sl tB)), (8, .dat tI)], []⟩
def big14 (f : List (List Int)) (k : Int) : Bool := (decide (101 < f.length) || (f.drop k.toNat).any fun b => decide (1000 < b.length))
def R34b : q34b.V → Tr (Ex × St) := fun (((l : List Ent), (f : List (List Int)), (k : Int), _), _) =>
  .need (decide (0 ≤ k ∧ k ≤ f.length ∧ k ≤ 101 ∧ (f.length : Int) ≤ 9223372036854775807)) (.ite (big14 f k) (.ret (.rt, ⟨78, [(6, .e (.c (.kb false)))], []⟩)) (.ret (.ex 2, ⟨78, [(0, rL tEnt l)], []⟩)))
def q34c : Frm := ⟨78, [(0, .dat (.sl tEnt)), (9, .dat tI)], []⟩
def R34c : q34c.V → Tr (Ex × St) := fun (((l : List Ent), (k : Int), _), _) =>
  .need (decide (l.length = 0 ∧ k = 0)) (.ret (.ex 4, ⟨78, [], []⟩))
def lp34 : LP := [(0, sumP q34a R34a), (2, sumP q34b R34b), (4, sumP q34c R34c)]
theorem lp34_ok : LpsOk 0 C34 [] lp34 fn34.loops := by
  refine .all (by kernel_rfl) ?_
  simp only [lp34, List.forall_mem_cons, List.not_mem_nil, false_imp_iff, implies_true, and_true]
  refine ⟨?_, ?_, ?_⟩
  · refine .pat q34a R34a (fun v => 0) ?_
    rintro ⟨⟨(l : List Ent), (f : List (List Int)), (d : (Ty.sl tDeed).El), (k : Int), ⟨⟩⟩, ⟨⟩⟩ ih
    refine Gives.run (t' := .ite (decide (k < (((List.length d) : Nat) : Int))) (.ite (decide ((150 : Int) < k)) (.ret (.rt, ⟨78, [(6, .e (.c (.kb false)))], []⟩)) (.need (inR k (List.length d)) (.ite (decide ((100 : Int) < (((List.length (((((List.getD d (Int.toNat k) ((0 : Int), ((0 : Int), ((0 : Int), (([] : List Int), (ByteArray.empty, ByteArray.empty))))))).2).2).2).1) : Nat) : Int))) (.ret (.rt, ⟨78, [(6, .e (.c (.kb false)))], []⟩)) (.need (inR k (List.length d)) (.ite (decide ((100 : Int) < (((ByteArray.size ((((((List.getD d (Int.toNat k) ((0 : Int), ((0 : Int), ((0 : Int), (([] : List Int), (ByteArray.empty, ByteArray.empty))))))).2).2).2).2).1) : Nat) : Int))) (.ret (.rt, ⟨78, [(6, .e (.c (.kb false)))], []⟩)) (.need (inR k (List.length d)) (.ite (decide ((100 : Int) < (((ByteArray.size ((((((List.getD d (Int.toNat k) ((0 : Int), ((0 : Int), ((0 : Int), (([] : List Int), (ByteArray.empty, ByteArray.empty))))))).2).2).2).2).2) : Nat) : Int))) (.ret (.rt, ⟨78, [(6, .e (.c (.kb false)))], []⟩)) (.need (decide (((-(9223372036854775808 : Int) : Int) ≤ (k + (1 : Int) : Int)) ∧ ((k + (1 : Int) : Int) ≤ (9223372036854775807 : Int)))) (.ret (.nx, ⟨78, [(0, rL tEnt l), (1, rL tB f), (2, rL tDeed d), (7, rI (k + (1 : Int) : Int))], []⟩)))))))))) (.ret (.ex 0, ⟨78, [(0, rL tEnt l), (1, rL tB f)], []⟩))) (by kernel_rfl) ?_
    refine .rnd fun ⟨h1, h2⟩ => ?_
    refine .lif (fun hk => absurd hk (by omega)) (fun _ => ?_)
    exact .refl _
  · refine .pat q34b R34b (fun v => (v.1.2.1.length - v.1.2.2.1).toNat) ?_
    rintro ⟨⟨(l : List Ent), (f : List (List Int)), (k : Int), ⟨⟩⟩, ⟨⟩⟩ ih
    refine Gives.run (t' := .ite (decide (k < (((List.length f) : Nat) : Int))) (.ite (decide ((100 : Int) < k)) (.ret (.rt, ⟨78, [(6, .e (.c (.kb false)))], []⟩)) (.need (inR k (List.length f)) (.ite (decide ((1000 : Int) < (((List.length (List.getD f (Int.toNat k) ([] : List Int))) : Nat) : Int))) (.ret (.rt, ⟨78, [(6, .e (.c (.kb false)))], []⟩)) (.need (decide (((-(9223372036854775808 : Int) : Int) ≤ (k + (1 : Int) : Int)) ∧ ((k + (1 : Int) : Int) ≤ (9223372036854775807 : Int)))) (.ret (.nx, ⟨78, [(0, rL tEnt l), (1, rL tB f), (8, rI (k + (1 : Int) : Int))], []⟩)))))) (.ret (.ex 2, ⟨78, [(0, rL tEnt l)], []⟩))) (by kernel_rfl) ?_
    refine .rnd fun ⟨h1, h2, h3, h4⟩ => ?_
    refine .lif (fun hk => ?_) (fun hk => ?_)
    · refine .lif (fun hs => ?_) (fun hs => ?_)
      · exact .rtt (by unfold big14; rw [decide_eq_true (by omega)]; rfl) (.refl _)
      refine .lneed (inR_of h1 (by omega)) ?_
      have e : (k + 1).toNat = k.toNat + 1 := by omega
      have ed := drop_at f k.toNat [] (by omega)
      refine .lif (fun hs => ?_) (fun hs => ?_)
      · exact .rtt (by unfold big14; rw [ed, List.any_cons, decide_eq_true (p := 1000 < _) (by omega)]; simp) (.refl _)
      refine .lnd (by omega) ?_
      refine Gives.next (σ' := q34b.st ((l, f, k + 1, ()), ())) (by kernel_rfl) ((ih _ (by simp only; omega)).trans ?_)
      refine .nd (by omega) ?_
      have e1 : big14 f k = big14 f (k + 1) := by
        unfold big14; rw [ed, List.any_cons, decide_eq_false (p := 1000 < _) (by omega), e]; rfl
      rw [e1]
      exact .refl _
    · refine .rff (by unfold big14; rw [decide_eq_false (by omega), List.drop_eq_nil_of_le (by omega)]; rfl) (.refl _)
  · refine .pat q34c R34c (fun v => 0) ?_
    rintro ⟨⟨(l : List Ent), (k : Int), ⟨⟩⟩, ⟨⟩⟩ ih
    refine Gives.run (t' := .ite (decide (k < (((List.length l) : Nat) : Int))) (.ite (decide ((100 : Int) < k)) (.ret (.rt, ⟨78, [(6, .e (.c (.kb false)))], []⟩)) (.need (inR k (List.length l)) (.ite (decide ((100 : Int) < (((ByteArray.size ((List.getD l (Int.toNat k) (ByteArray.empty, (false, (0 : Int))))).1) : Nat) : Int))) (.ret (.rt, ⟨78, [(6, .e (.c (.kb false)))], []⟩)) (.need (decide (((-(9223372036854775808 : Int) : Int) ≤ (k + (1 : Int) : Int)) ∧ ((k + (1 : Int) : Int) ≤ (9223372036854775807 : Int)))) (.ret (.nx, ⟨78, [(0, rL tEnt l), (9, rI (k + (1 : Int) : Int))], []⟩)))))) (.ret (.ex 4, ⟨78, [], []⟩))) (by kernel_rfl) ?_
    refine .rnd fun ⟨h1, h2⟩ => ?_
    refine .lif (fun hk => absurd hk (by omega)) (fun _ => ?_)
    exact .refl _
def small14Ctr : Ctr := ctr (three (aVal (.sl tEnt)) (aVal (.sl tB)) (aVal (.sl tDeed))) fun a => .need (decide (a.1.length = 0 ∧ a.2.2.1.length = 0)) (ans (rB (!big14 a.2.1 0)))
theorem small14_ok : CtrOk Tryz.prog 34 small14Ctr := by
  refine .mk C34_ok mixed (q := fn34) (.of Tryz.func34 (by kernel_rfl)) lp34_ok (by decide) ?_
  rintro ⟨(l : List Ent), (f : List (List Int)), (d : (Ty.sl tDeed).El), ⟨⟩⟩ hb
  have hN : f.length ≤ 9223372036854775807 := hb.2.1.1
  refine Gives.of_eq (t' := .need (decide (((List.length d) = 0) ∧ ((0 : Int) = (0 : Int)))) (.need (decide (((0 : Int) ≤ (0 : Int)) ∧ (((0 : Int) ≤ (((List.length f) : Nat) : Int)) ∧ (((0 : Int) ≤ (101 : Int)) ∧ ((((List.length f) : Nat) : Int) ≤ (9223372036854775807 : Int)))))) (.ite (big14 f (0 : Int)) (.ret (rB false, ⟨0, [], []⟩)) (.need (decide (((List.length l) = 0) ∧ ((0 : Int) = (0 : Int)))) (.ret (rB true, ⟨0, [], []⟩)))))) (by kernel_rfl) ?_
  show Gives _ (.need (decide (l.length = 0 ∧ d.length = 0)) (.ret (rB (!big14 f 0), St.nil)))
  refine .rnd fun ⟨h1, h2⟩ => ?_
  refine .nd ⟨h2, rfl⟩ (.nd (by omega) ?_)
  refine .ite (fun h => ?_) (fun h => ?_)
  · rw [h]; exact .refl _
  · rw [h]; exact .nd ⟨h1, rfl⟩ (.refl _)
noncomputable def fn19 := mkFn Tryz.f19
def C19 : Cx := ⟨T, [], [(34, small14Ctr)], [], []⟩
theorem C19_ok : CxOk Tryz.prog C19 := ⟨T_ok, .nil _, .cons small14_ok (.nil _), .nil _⟩
def q19 : Frm := ⟨34, [(1, .ptr tInp), (3, .dat tI)], []⟩
def R19 : q19.V → Tr (Ex × St) := fun (((m : tInp.El), (k : Int), _), _) =>
  .need (decide (0 ≤ k ∧ k ≤ m.2.1.length ∧ (m.2.1.length : Int) ≤ 9223372036854775807)) (.ite ((m.2.1.drop k.toNat).any fun b => decide (500 < b.length)) (.ret (.rt, ⟨34, [(2, .e (.c (.kb false)))], []⟩)) (.ret (.ex 0, ⟨34, [], []⟩)))
def lp19 : LP := [(0, sumP q19 R19)]
theorem lp19_ok : LpsOk 0 C19 [] lp19 fn19.loops := by
  refine .all (by kernel_rfl) ?_
  simp only [lp19, List.forall_mem_cons, List.not_mem_nil, false_imp_iff, implies_true, and_true]
  refine .pat q19 R19 (fun v => (v.1.1.2.1.length - v.1.2.1).toNat) ?_
  rintro ⟨⟨⟨(iF : List (List Int)), (iA : List (List Int)), (iB : List Bool)⟩, (k : Int), ⟨⟩⟩, ⟨⟩⟩ ih
  refine Gives.run (t' := .ite (decide (k < (((List.length iA) : Nat) : Int))) (.need (inR k (List.length iA)) (.ite (decide ((500 : Int) < (((List.length (List.getD iA (Int.toNat k) ([] : List Int))) : Nat) : Int))) (.ret (.rt, ⟨34, [(2, .e (.c (.kb false)))], []⟩)) (.need (decide (((-(9223372036854775808 : Int) : Int) ≤ (k + (1 : Int) : Int)) ∧ ((k + (1 : Int) : Int) ≤ (9223372036854775807 : Int)))) (.ret (.nx, ⟨34, [(1, .e (.c (.dp [.sl tB iF, .sl tB iA, .sl Ty.bool iB]))), (3, rI (k + (1 : Int) : Int))], []⟩))))) (.ret (.ex 0, ⟨34, [], []⟩))) (by kernel_rfl) ?_
  refine .rnd fun ⟨h1, h2, h3⟩ => ?_
  have h2 : k ≤ iA.length := h2
  have h3 : (iA.length : Int) ≤ 9223372036854775807 := h3
  refine .lif (fun hk => ?_) (fun hk => ?_)
  · refine .lneed (inR_of h1 (by omega)) ?_
    have e : (k + 1).toNat = k.toNat + 1 := by omega
    have ed := drop_at iA k.toNat [] (by omega)
    refine .lif (fun hs => ?_) (fun hs => ?_)
    · exact .rtt (by show (iA.drop k.toNat).any _ = true; rw [ed, List.any_cons, decide_eq_true (p := 500 < _) (by omega)]; rfl) (.refl _)
    refine .lnd (by omega) ?_
    refine Gives.next (σ' := q19.st (((iF, iA, iB), k + 1, ()), ())) (by kernel_rfl) ((ih _ (by simp only; omega)).trans ?_)
    refine .nd ⟨by omega, by show k + 1 ≤ iA.length; omega, h3⟩ ?_
    show Gives (Tr.ite ((iA.drop (k + 1).toNat).any _) _ _) (Tr.ite ((iA.drop k.toNat).any _) _ _)
    rw [ed, List.any_cons, decide_eq_false (p := 500 < _) (by omega), e, Bool.false_or]
    exact .refl _
  · refine .rff (by show (iA.drop k.toNat).any _ = false; rw [List.drop_eq_nil_of_le (by omega)]; rfl) (.refl _)
def small16 (m : Inp) : Bool := !decide (200 < (m.2.2.length : Int)) && (!decide (50 < (m.2.1.length : Int)) && (!big14 m.1 0 && !m.2.1.any fun b => decide (500 < b.length)))
theorem small16_ok : CtrOk Tryz.prog 19 (ctr (one (aAgg tInp)) fun a => ans (rB (small16 a.1))) := by
  refine .mk C19_ok mixed (q := fn19) (.of Tryz.func19 (by kernel_rfl)) lp19_ok (by decide) ?_
  rintro ⟨⟨(iF : List (List Int)), (iA : List (List Int)), (iB : List Bool)⟩, ⟨⟩⟩ hb
  have hA : iA.length ≤ 9223372036854775807 := hb.1.2.1.1
  refine Gives.of_eq (t' := .ite (decide ((200 : Int) < (((List.length iB) : Nat) : Int))) (.ret (rB false, ⟨0, [], []⟩)) (.ite (decide ((50 : Int) < (((List.length iA) : Nat) : Int))) (.ret (rB false, ⟨0, [], []⟩)) (.need true (.ite (!(!(big14 iF (0 : Int)))) (.ret (rB false, ⟨0, [], []⟩)) (.need (decide (((0 : Int) ≤ (0 : Int)) ∧ (((0 : Int) ≤ (((List.length iA) : Nat) : Int)) ∧ ((((List.length iA) : Nat) : Int) ≤ (9223372036854775807 : Int))))) (.ite (List.any (List.drop 0 iA) (fun b => (decide (500 < (List.length b))))) (.ret (rB false, ⟨0, [], []⟩)) (.ret (rB true, ⟨0, [], []⟩)))))))) (by kernel_rfl) ?_
  show Gives _ (.ret (rB (small16 (iF, iA, iB)), St.nil))
  have e0 : small16 (iF, iA, iB) = (!decide (200 < (iB.length : Int)) && (!decide (50 < (iA.length : Int)) && (!big14 iF 0 && !iA.any fun b => decide (500 < b.length)))) := rfl
  rw [e0]
  clear e0
  refine .ite (fun h => ?_) (fun h => ?_)
  · rw [h]; exact .refl _
  rw [h]
  refine .ite (fun h' => ?_) (fun h' => ?_)
  · rw [h']; exact .refl _
  rw [h']
  refine .need rfl (.ite (fun h'' => ?_) (fun h'' => ?_))
  · rw [Bool.not_not] at h''; rw [h'']; exact .refl _
  rw [Bool.not_not] at h''; rw [h'']
  refine .nd ⟨by omega, by omega, by omega⟩ (.ite (fun h4 => ?_) (fun h4 => ?_))
  · rw [List.drop_zero] at h4; rw [h4]; exact .refl _
  · rw [List.drop_zero] at h4; rw [h4]; exact .refl _
noncomputable def fn7 := mkFn Tryz.f7
def C7 : Cx := ⟨T, [], [(17, ctr (one (aAgg tProg)) fun a => ans (rB (small10 a.1))), (18, ctr (one (aAgg tCls)) fun a => ans (rB (small17 a.1))), (19, ctr (one (aAgg tInp)) fun a => ans (rB (small16 a.1)))], [], []⟩
theorem C7_ok : CxOk Tryz.prog C7 := ⟨T_ok, .nil _, .cons small10_ok (.cons small17_ok (.cons small16_ok (.nil _))), .nil _⟩
def smallR (m : Img) : Bool := small10 m.1 && (small17 m.2.1 && (small16 m.2.2.1 && decide ((m.2.2.2.1.length : Int) ≤ 2000)))
theorem smallR_ok : CtrOk Tryz.prog 7 (ctr (one (aAgg tImg)) fun a => ans (rB (smallR a.1))) := by
  refine .mk C7_ok mixed (q := fn7) (.of Tryz.func7 (by kernel_rfl)) (N := 0) (nr := []) .none (by decide) ?_
  rintro ⟨⟨⟨(pL : List (Int × Int)), (pN : List ByteArray)⟩, ⟨(cT : List Ent), (cA : List Int), (c1 : Int), (c2 : Int), (c3 : Int)⟩, ⟨(iF : List (List Int)), (iA : List (List Int)), (iB : List Bool)⟩, ⟨(tL : List (Bool × Int)), (tE : Int), (tC : Int)⟩⟩, ⟨⟩⟩ hb
  refine Gives.of_eq (t' := .need true (.ite (small10 (pL, pN)) (.need true (.ite (small17 (cT, (cA, (c1, (c2, c3))))) (.need true (.ite (small16 (iF, (iA, iB))) (.ret (rB (decide ((((List.length tL) : Nat) : Int) ≤ (2000 : Int))), ⟨0, [], []⟩)) (.ret (rB false, ⟨0, [], []⟩)))) (.ret (rB false, ⟨0, [], []⟩)))) (.ret (rB false, ⟨0, [], []⟩)))) (by kernel_rfl) ?_
  show Gives _ (.ret (rB (smallR ((pL, pN), (cT, cA, c1, c2, c3), (iF, iA, iB), (tL, tE, tC))), St.nil))
  have e0 : smallR ((pL, pN), (cT, cA, c1, c2, c3), (iF, iA, iB), (tL, tE, tC)) = (small10 (pL, pN) && (small17 (cT, cA, c1, c2, c3) && (small16 (iF, iA, iB) && decide ((tL.length : Int) ≤ 2000)))) := rfl
  rw [e0]
  clear e0
  refine .need rfl (.ite (fun h => ?_) (fun h => ?_))
  · rw [h]
    refine .need rfl (.ite (fun h' => ?_) (fun h' => ?_))
    · rw [h']
      refine .need rfl (.ite (fun h'' => ?_) (fun h'' => ?_))
      · rw [h'']; exact .refl _
      · rw [h'']; exact .refl _
    · rw [h']; exact .refl _
  · rw [h]; exact .refl _
end Go.Proofs.YtdngaaploooceaaGreatDoor.Sy

/- Contracts: one image is written and read. -/
set_option maxRecDepth 100000
namespace Go.Proofs.YtdngaaploooceaaGreatDoor.Sy
open Go.RowKit Kit Go.Proofs
def m0 : Img := (([(1, 0), (26, 0)], []), ([], [], 0, 0, 0), ([], [], []), ([], 1, 0))
theorem m0_read : readI (writeB m0) = (0, m0) := by kernel_rfl
theorem m0_write : writeE m0 = 0 := by kernel_rfl
theorem m0_len : (writeB m0).length = 4608 := by kernel_rfl
theorem m0_u8 : u8s (writeB m0) = true := writeB_u8 (by kernel_rfl)
noncomputable def fn6 := mkFn Tryz.f6
noncomputable def C6 : Cx := ⟨T, FL, [(8, writeCtr), (12, readCtr)], [], [8, 1000000+12]⟩
theorem C6_ok : CxOk Tryz.prog C6 := ⟨T_ok, FL_ok, .cons write_ok (.cons read_ok (.nil _)), .nil _⟩
theorem awake_ok : CtrOk Tryz.prog 6 (ctr Args.nil fun _ => ans (rB true)) := by
  refine .mk C6_ok mixed (q := fn6) (.of Tryz.func6 (by kernel_rfl)) (N := 0) (nr := []) .none (by decide) ?_
  rintro ⟨⟩ hb
  refine Gives.of_eq (t' := .need true (.ite false (.need true (.ite true (.ite false (.ite false (.ite false (.ret (rB ((((((((readI ([] : List Int))).2).2).2).2).2).1 == (1 : Int)), ⟨0, [], []⟩)) (.ret (rB false, ⟨0, [], []⟩))) (.ret (rB false, ⟨0, [], []⟩))) (.ret (rB false, ⟨0, [], []⟩))) (.ret (rB false, ⟨0, [], []⟩)))) (.need true (.ite true (.ite true (.ite true (.ite true (.ret (rB ((((((((readI (writeB (([((1 : Int), (0 : Int)), ((26 : Int), (0 : Int))], ([] : List ByteArray)), ((([] : List (Prod ByteArray (Prod Bool Int))), (([] : List Int), ((0 : Int), ((0 : Int), (0 : Int))))), ((([] : List (List Int)), (([] : List (List Int)), ([] : List Bool))), (([] : List (Prod Bool Int)), ((1 : Int), (0 : Int))))))))).2).2).2).2).2).1 == (1 : Int)), ⟨0, [], []⟩)) (.ret (rB false, ⟨0, [], []⟩))) (.ret (rB false, ⟨0, [], []⟩))) (.ret (rB false, ⟨0, [], []⟩))) (.ret (rB false, ⟨0, [], []⟩)))))) (by kernel_rfl) ?_
  refine .need rfl (.ff rfl (.need rfl (.tt rfl (.tt rfl (.tt rfl (.tt rfl ?_))))))
  have e : ((readI (writeB m0)).2.2.2.2.2.1 == (1 : Int)) = true := by rw [m0_read]; rfl
  unfold m0 at e
  rw [e]
  exact .refl _
end Go.Proofs.YtdngaaploooceaaGreatDoor.Sy

/- Contracts: ImageReads. -/
set_option maxRecDepth 100000
namespace Go.Proofs.YtdngaaploooceaaGreatDoor.Sy
open Go.RowKit Kit Go.Proofs
theorem fileB_len (f : File) (h : f.1.size ≤ 99) : ((fileB f).length : Int) = 512 * (1 + blocksF f.2.2.length) := by
  have hb := blocksF_le (n := (f.2.2.length : Int)) (by omega)
  unfold fileB padF
  rw [List.length_append, List.length_append, headF_len f h, List.length_replicate]
  omega
theorem nameBad_size {f : File} (h : nameBad f = false) : f.1.size ≤ 99 := by
  unfold nameBad at h
  simp only [Bool.or_eq_false_iff, decide_eq_false_iff_not] at h
  omega
theorem flatB_len : ∀ (l : List File) (n : Int), 2 ≤ n → n ≤ 128 → l.any nameBad = false → fullBad n l = false → ((l.flatMap fileB).length : Int) ≤ 512 * (128 - n)
  | [], n, h2, hn, _, _ => by simp; omega
  | f :: r, n, h2, hn, h, hf => by
    rw [List.any_cons, Bool.or_eq_false_iff] at h
    rw [fullBad, Bool.or_eq_false_iff, decide_eq_false_iff_not] at hf
    have hs := nameBad_size h.1
    have hb := blocksF_le (n := (f.2.2.length : Int)) (by omega)
    have hk : blkF f = 1 + blocksF f.2.2.length := by
      have h1 : 1 + blocksF (imin f.2.2.length 65536) ≤ 126 := by have := hf.1; unfold blkF at this; omega
      unfold blkF
      unfold imin at h1 ⊢
      split at h1
      · exfalso
        have := blocksF_le (n := 65536) (by omega)
        omega
      · rename_i hc; rw [if_neg hc]
    have ih := flatB_len r (n + blkF f) (by omega) (by omega) h.2 hf.2
    rw [List.flatMap_cons, List.length_append]
    have := fileB_len f hs
    omega
theorem tMay_len {l : List File} (h : tMay l = 0) : (arcF l).length ≤ 65536 := by
  unfold tMay at h
  have h1 : l.any nameBad = false := by
    cases hc : l.any nameBad with
    | false => rfl
    | true => rw [hc] at h; simp at h
  have h2 : l.any dirBad = false := by
    cases hc : l.any dirBad with
    | false => rfl
    | true => rw [h1, hc] at h; simp at h
  have h3 : fullBad 2 l = false := by
    cases hc : fullBad 2 l with
    | false => rfl
    | true => rw [h1, h2, hc] at h; simp at h
  have := flatB_len l 2 (by omega) (by omega) h1 h3
  unfold arcF
  rw [List.length_append, List.length_replicate]
  omega
theorem writeE_may {m : Img} (h : writeE m = 0) : tMay (imgFs m) = 0 := by
  unfold writeE at h
  split at h
  · rename_i h'; exact absurd h h'
  split at h
  · exact absurd h (by decide)
  split at h
  · exact absurd h (by decide)
  split at h
  · exact absurd h (by decide)
  exact h
theorem writeB_len {m : Img} (h : writeE m = 0) : (writeB m).length ≤ 65536 := tMay_len (writeE_may h)
theorem writeB_pos (m : Img) : 1024 ≤ (writeB m).length := by
  unfold writeB arcF
  rw [List.length_append, List.length_replicate]
  omega
theorem oneE_codes (h r : List Int) : oneE h r = 0 ∨ oneE h r = 4 ∨ oneE h r = 14 := by
  unfold oneE
  split
  · exact .inr (.inr rfl)
  split
  · exact .inr (.inl rfl)
  split
  · exact .inr (.inl rfl)
  · exact .inl rfl
theorem rdL_codes : ∀ (n : Nat) (b : List Int), (rdL n b).1 = 0 ∨ (rdL n b).1 = 4 ∨ (rdL n b).1 = 14
  | 0, _ => .inr (.inl rfl)
  | n + 1, b => by
    rw [rdL]
    split
    · exact .inr (.inl rfl)
    split
    · exact .inl rfl
    split
    · exact oneE_codes _ _
    · exact rdL_codes n _
theorem readI_codes (b : List Int) : (readI b).1 = 0 ∨ (readI b).1 = 4 ∨ (readI b).1 = 14 := by
  unfold readI
  split
  · unfold readT
    split
    · exact rdL_codes _ _
    split
    · exact .inr (.inl rfl)
    · exact .inl rfl
  split
  · exact .inr (.inl rfl)
  split
  · exact .inr (.inl rfl)
  · exact .inl rfl
theorem readI_back {b : List Int} (h : (readI b).1 = 0) : writeE (readI b).2 = 0 ∧ writeB (readI b).2 = b := by
  unfold readI at h ⊢
  split at h
  · rename_i h1; exact absurd h h1
  rename_i h1
  split at h
  · exact absurd h (by decide)
  rename_i h2
  split at h
  · exact absurd h (by decide)
  rename_i h3
  rw [if_neg h1, if_neg h2, if_neg h3]
  rw [not_or, Classical.not_not, Classical.not_not] at h3
  exact h3
noncomputable def fn4 := mkFn Tryz.f4
noncomputable def C4 : Cx := ⟨T, FL, [(6, ctr Args.nil fun _ => ans (rB true)), (7, ctr (one (aAgg tImg)) fun a => ans (rB (smallR a.1))), (8, writeCtr), (12, readCtr)], [], [3, 1000000+12]⟩
theorem C4_ok : CxOk Tryz.prog C4 := ⟨T_ok, FL_ok, .cons awake_ok (.cons smallR_ok (.cons write_ok (.cons read_ok (.nil _)))), .nil _⟩
theorem reads_ok : CtrOk Tryz.prog 4 (ctr (three (aAgg tImg) (aVal (.int .u16)) (aVal (.int .u8))) fun a => .need (decide (imgU a.1 = true ∧ 0 ≤ a.2.1 ∧ a.2.1 ≤ 65535)) (ans (rB true))) := by
  refine .mk C4_ok mixed (q := fn4) (.of Tryz.func4 (by kernel_rfl)) (N := 0) (nr := []) .none (by decide) ?_
  rintro ⟨(m : Img), (u : Int), (v : Int), ⟨⟩⟩ hb
  refine Gives.of_eq (t' := .ite false (.ret (rB false, ⟨0, [], []⟩)) (.need true (.ite (!(smallR m)) (.ret (rB true, ⟨0, [], []⟩)) (.need true (.need true (.need true (.need true (.ite ((writeE m) != (0 : Int)) (.ite ((writeE m) != (0 : Int)) (.ite true (.ret (rB ((writeE m) != (0 : Int)), ⟨0, [], []⟩)) (.ret (rB false, ⟨0, [], []⟩))) (.ite true (.ite true (.ret (rB ((writeE m) != (0 : Int)), ⟨0, [], []⟩)) (.ret (rB false, ⟨0, [], []⟩))) (.need false (.fail)))) (.ite false (.ite false (.ret (rB ((0 : Int) != (0 : Int)), ⟨0, [], []⟩)) (.ret (rB false, ⟨0, [], []⟩))) (.ite false (.ite false (.ret (rB ((0 : Int) != (0 : Int)), ⟨0, [], []⟩)) (.ret (rB false, ⟨0, [], []⟩))) (.need true (.need (inR (Int.tmod (IntKind.wrap IntKind.i64 u) (((List.length (writeB m)) : Nat) : Int)) (List.length (writeB m))) (.need (decide ((Int.toNat (Int.tmod (IntKind.wrap IntKind.i64 u) (((List.length (writeB m)) : Nat) : Int))) < (List.length (writeB m)))) (.need (inR (Int.tmod (IntKind.wrap IntKind.i64 u) (((List.length (writeB m)) : Nat) : Int)) (List.length (writeB m))) (.need (decide ((Int.toNat (Int.tmod (IntKind.wrap IntKind.i64 u) (((List.length (writeB m)) : Nat) : Int))) < (List.length (writeB m)))) (.need (decide (((u8s (List.set (writeB m) (Int.toNat (Int.tmod (IntKind.wrap IntKind.i64 u) (((List.length (writeB m)) : Nat) : Int))) (IntKind.wrap IntKind.u8 (((BitVec.toNat (HXor.hXor (BitVec.ofInt (IntKind.bits IntKind.u8) (List.getD (writeB m) (Int.toNat (Int.tmod (IntKind.wrap IntKind.i64 u) (((List.length (writeB m)) : Nat) : Int))) (0 : Int))) (BitVec.ofInt (IntKind.bits IntKind.u8) v))) : Nat) : Int)))) = true) ∧ ((List.length (List.set (writeB m) (Int.toNat (Int.tmod (IntKind.wrap IntKind.i64 u) (((List.length (writeB m)) : Nat) : Int))) (IntKind.wrap IntKind.u8 (((BitVec.toNat (HXor.hXor (BitVec.ofInt (IntKind.bits IntKind.u8) (List.getD (writeB m) (Int.toNat (Int.tmod (IntKind.wrap IntKind.i64 u) (((List.length (writeB m)) : Nat) : Int))) (0 : Int))) (BitVec.ofInt (IntKind.bits IntKind.u8) v))) : Nat) : Int)))) ≤ 1000000000))) (.ite (((readI (List.set (writeB m) (Int.toNat (Int.tmod (IntKind.wrap IntKind.i64 u) (((List.length (writeB m)) : Nat) : Int))) (IntKind.wrap IntKind.u8 (((BitVec.toNat (HXor.hXor (BitVec.ofInt (IntKind.bits IntKind.u8) (List.getD (writeB m) (Int.toNat (Int.tmod (IntKind.wrap IntKind.i64 u) (((List.length (writeB m)) : Nat) : Int))) (0 : Int))) (BitVec.ofInt (IntKind.bits IntKind.u8) v))) : Nat) : Int))))).1 != (0 : Int)) (.ite (((readI (List.set (writeB m) (Int.toNat (Int.tmod (IntKind.wrap IntKind.i64 u) (((List.length (writeB m)) : Nat) : Int))) (IntKind.wrap IntKind.u8 (((BitVec.toNat (HXor.hXor (BitVec.ofInt (IntKind.bits IntKind.u8) (List.getD (writeB m) (Int.toNat (Int.tmod (IntKind.wrap IntKind.i64 u) (((List.length (writeB m)) : Nat) : Int))) (0 : Int))) (BitVec.ofInt (IntKind.bits IntKind.u8) v))) : Nat) : Int))))).1 == (4 : Int)) (.ret (rB true, ⟨0, [], []⟩)) (.ret (rB (((readI (List.set (writeB m) (Int.toNat (Int.tmod (IntKind.wrap IntKind.i64 u) (((List.length (writeB m)) : Nat) : Int))) (IntKind.wrap IntKind.u8 (((BitVec.toNat (HXor.hXor (BitVec.ofInt (IntKind.bits IntKind.u8) (List.getD (writeB m) (Int.toNat (Int.tmod (IntKind.wrap IntKind.i64 u) (((List.length (writeB m)) : Nat) : Int))) (0 : Int))) (BitVec.ofInt (IntKind.bits IntKind.u8) v))) : Nat) : Int))))).1 == (14 : Int)), ⟨0, [], []⟩))) (.need true (.ite ((writeE ((readI (List.set (writeB m) (Int.toNat (Int.tmod (IntKind.wrap IntKind.i64 u) (((List.length (writeB m)) : Nat) : Int))) (IntKind.wrap IntKind.u8 (((BitVec.toNat (HXor.hXor (BitVec.ofInt (IntKind.bits IntKind.u8) (List.getD (writeB m) (Int.toNat (Int.tmod (IntKind.wrap IntKind.i64 u) (((List.length (writeB m)) : Nat) : Int))) (0 : Int))) (BitVec.ofInt (IntKind.bits IntKind.u8) v))) : Nat) : Int))))).2) != (0 : Int)) (.ite ((writeE ((readI (List.set (writeB m) (Int.toNat (Int.tmod (IntKind.wrap IntKind.i64 u) (((List.length (writeB m)) : Nat) : Int))) (IntKind.wrap IntKind.u8 (((BitVec.toNat (HXor.hXor (BitVec.ofInt (IntKind.bits IntKind.u8) (List.getD (writeB m) (Int.toNat (Int.tmod (IntKind.wrap IntKind.i64 u) (((List.length (writeB m)) : Nat) : Int))) (0 : Int))) (BitVec.ofInt (IntKind.bits IntKind.u8) v))) : Nat) : Int))))).2) == (0 : Int)) (.need true (.ret (rB (decide ((txt (List.set (writeB m) (Int.toNat (Int.tmod (IntKind.wrap IntKind.i64 u) (((List.length (writeB m)) : Nat) : Int))) (IntKind.wrap IntKind.u8 (((BitVec.toNat (HXor.hXor (BitVec.ofInt (IntKind.bits IntKind.u8) (List.getD (writeB m) (Int.toNat (Int.tmod (IntKind.wrap IntKind.i64 u) (((List.length (writeB m)) : Nat) : Int))) (0 : Int))) (BitVec.ofInt (IntKind.bits IntKind.u8) v))) : Nat) : Int)))) = ByteArray.empty)), ⟨0, [], []⟩))) (.ret (rB false, ⟨0, [], []⟩))) (.ite true (.need true (.need true (.ret (rB (decide ((txt (List.set (writeB m) (Int.toNat (Int.tmod (IntKind.wrap IntKind.i64 u) (((List.length (writeB m)) : Nat) : Int))) (IntKind.wrap IntKind.u8 (((BitVec.toNat (HXor.hXor (BitVec.ofInt (IntKind.bits IntKind.u8) (List.getD (writeB m) (Int.toNat (Int.tmod (IntKind.wrap IntKind.i64 u) (((List.length (writeB m)) : Nat) : Int))) (0 : Int))) (BitVec.ofInt (IntKind.bits IntKind.u8) v))) : Nat) : Int)))) = (txt (writeB ((readI (List.set (writeB m) (Int.toNat (Int.tmod (IntKind.wrap IntKind.i64 u) (((List.length (writeB m)) : Nat) : Int))) (IntKind.wrap IntKind.u8 (((BitVec.toNat (HXor.hXor (BitVec.ofInt (IntKind.bits IntKind.u8) (List.getD (writeB m) (Int.toNat (Int.tmod (IntKind.wrap IntKind.i64 u) (((List.length (writeB m)) : Nat) : Int))) (0 : Int))) (BitVec.ofInt (IntKind.bits IntKind.u8) v))) : Nat) : Int))))).2)))), ⟨0, [], []⟩)))) (.ret (rB false, ⟨0, [], []⟩)))))))))))))))))))))) (by kernel_rfl) ?_
  show Gives _ (.need (decide (imgU m = true ∧ 0 ≤ u ∧ u ≤ 65535)) (.ret (rB true, St.nil)))
  refine .rnd fun ⟨h1, h2, h3⟩ => ?_
  refine .ff rfl (.need rfl (.ite (fun h => .refl _) (fun h => ?_)))
  clear h
  refine .need rfl (.need rfl (.need rfl (.need rfl ?_)))
  refine .ite (fun h => ?_) (fun h => ?_)
  · refine .tt h (.tt rfl ?_)
    rw [h]; exact .refl _
  have hw : writeE m = 0 := bne_eq_false_iff_eq.1 h
  have hl := writeB_len hw
  have hp := writeB_pos m
  have hu := writeB_u8 h1
  have eu : IntKind.wrap .i64 u = u := wrap_i64 (by omega)
  have et : Int.tmod u ((writeB m).length : Int) = u % ((writeB m).length : Int) := Int.tmod_eq_emod_of_nonneg h2
  have e1 := Int.emod_nonneg u (b := ((writeB m).length : Int)) (by omega)
  have e2 := Int.emod_lt_of_pos u (b := ((writeB m).length : Int)) (by omega)
  generalize writeB m = B at *
  refine .ff rfl (.ff rfl ?_)
  rw [eu, et]
  generalize u % (B.length : Int) = k at *
  refine .need rfl (.need (inR_of e1 (by omega)) (.nd (by omega) (.need (inR_of e1 (by omega)) (.nd (by omega) ?_))))
  have hs : ∀ x, u8s (B.set k.toNat (IntKind.wrap .u8 x)) = true := fun x => u8s_set hu _ (u8_iff.2 (u8_wrap x))
  have hsl : ∀ x, (B.set k.toNat (IntKind.wrap .u8 x)).length ≤ 1000000000 := fun x => by rw [List.length_set]; omega
  generalize ((((_ : BitVec _).toNat : Nat) : Int)) = X
  replace hs := hs X
  replace hsl := hsl X
  generalize B.set k.toNat (IntKind.wrap .u8 X) = B2 at *
  refine .nd ⟨hs, hsl⟩ ?_
  have hc := readI_codes B2
  refine .ite (fun h => ?_) (fun h => ?_)
  · have h : ¬ (readI B2).1 = 0 := bne_iff_ne.1 h
    refine .ite (fun h' => .refl _) (fun h' => ?_)
    have h' : ¬ (readI B2).1 = 4 := by simpa using h'
    have e : (readI B2).1 = 14 := by omega
    rw [e]; exact .refl _
  · have h : (readI B2).1 = 0 := bne_eq_false_iff_eq.1 h
    obtain ⟨g1, g2⟩ := readI_back h
    refine .need rfl (.ff (bne_eq_false_iff_eq.2 g1) (.tt rfl (.need rfl (.need rfl ?_))))
    rw [g2, decide_eq_true rfl]; exact .refl _
end Go.Proofs.YtdngaaploooceaaGreatDoor.Sy

/- Plain laws: an archive that is written is read: the files are the same. -/
set_option maxRecDepth 100000
namespace Go.Proofs.YtdngaaploooceaaGreatDoor.Sy
open Go.RowKit Kit Go.Proofs
/-! ### digits of base 8 -/
theorem octV_eq {n : Nat} (hn : n ≤ 1000000) {k : Nat} (hk : k ≤ 20) : octV n k = 48 + ((n / 8 ^ k % 8 : Nat) : Int) := by
  have e1 : IntKind.wrap .u64 (3 * (k : Int)) = 3 * (k : Int) := wrap_u64 (by omega)
  have e2 : min (Int.toNat (3 * (k : Int))) (IntKind.bits .i64) = 3 * k := by
    show min (Int.toNat (3 * (k : Int))) 64 = 3 * k
    omega
  have e3 : ((2 : Int) ^ (3 * k)) = ((8 ^ k : Nat) : Int) := by
    rw [Int.pow_mul]; push_cast; rfl
  have e4 : Int.fdiv (n : Int) ((8 ^ k : Nat) : Int) = ((n / 8 ^ k : Nat) : Int) := by
    rw [Int.fdiv_eq_ediv_of_nonneg _ (Int.natCast_nonneg _)]; push_cast; rfl
  have e5 : n / 8 ^ k ≤ n := Nat.div_le_self ..
  unfold octV
  rw [e1, e2, e3, e4]
  generalize n / 8 ^ k = q at e5 ⊢
  have e6 : (BitVec.toNat (BitVec.ofInt (IntKind.bits .i64) ((q : Nat) : Int) &&& BitVec.ofInt (IntKind.bits .i64) 7)) = q % 8 := by
    show BitVec.toNat (BitVec.ofInt 64 ((q : Nat) : Int) &&& BitVec.ofInt 64 7) = _
    rw [BitVec.toNat_and, BitVec.toNat_ofInt, BitVec.toNat_ofInt]
    have f1 : ((q : Int) % ((2 ^ 64 : Nat) : Int)).toNat = q := by omega
    have f2 : ((7 : Int) % ((2 ^ 64 : Nat) : Int)).toNat = 2 ^ 3 - 1 := by decide
    rw [f1, f2, Nat.and_two_pow_sub_one_eq_mod]
  rw [e6]
  have hm : q % 8 < 8 := Nat.mod_lt _ (by omega)
  generalize q % 8 = d at hm ⊢
  rw [wrap_i64n (n := (d : Int)) (by omega)]
  have w : ∀ x : Int, 0 ≤ x → x ≤ 255 → IntKind.wrap .u8 x = x := fun x h1 h2 => by
    have e : IntKind.wrap .u8 x = x % 256 := by simp [IntKind.wrap, IntKind.bits, IntKind.signed]
    omega
  rw [w (d : Int) (by omega) (by omega), w (48 + (d : Int)) (by omega) (by omega)]
/-- digits, the greatest first -/
def digs (n : Int) : Nat → Nat → List Int
  | 0, _ => []
  | s + 1, k => digs n s (k + 1) ++ [octV n k]
theorem digs_len (n : Int) : ∀ s k, (digs n s k).length = s
  | 0, _ => rfl
  | s + 1, k => by rw [digs, List.length_append, digs_len n s]; rfl
theorem octR_digs (n : Int) : ∀ (s k : Nat) (b : List Int), s ≤ b.length → octR n ((k + s : Nat) : Int) s k b = digs n s k ++ b.drop s
  | 0, _, b, _ => rfl
  | s + 1, k, b, h => by
    rw [octR]
    have e : (((k + (s + 1) : Nat) : Int) - 1 - (k : Int)).toNat = s := by omega
    rw [e, show (k : Int) + 1 = ((k + 1 : Nat) : Int) by omega, show ((k + (s + 1) : Nat) : Int) = (((k + 1) + s : Nat) : Int) by congr 1; omega]
    rw [octR_digs n s (k + 1) _ (by rw [List.length_set]; omega), digs, List.append_assoc]
    congr 1
    have : (b.set s (octV n k)).drop s = octV n k :: b.drop (s + 1) := by
      rw [List.drop_eq_getElem_cons (by rw [List.length_set]; omega), List.getElem_set_self, List.drop_set_of_lt (by omega)]
    rw [this]; rfl
theorem octal_digs (n : Int) (d : Nat) : octal n d = digs n d 0 ++ [0] := by
  unfold octal
  have h := octR_digs n d 0 (List.replicate ((d : Int) + 1).toNat 0) (by rw [List.length_replicate]; omega)
  rw [Nat.zero_add] at h
  rw [show ((d : Int)).toNat = d by omega]
  show octR n d d ((0 : Nat) : Int) _ = _
  rw [h, List.drop_replicate, show ((d : Int) + 1).toNat - d = 1 by omega]; rfl
theorem numL_snoc : ∀ (l : List Int) (n c : Int), (numL n l).2 = true → numL n (l ++ [c]) = if c < 48 ∨ 55 < c ∨ 65536 < (numL n l).1 then (0, false) else (nextN (numL n l).1 c, true)
  | [], n, c, _ => by
    rw [List.nil_append, numL]; rfl
  | x :: r, n, c, h => by
    rw [numL] at h
    rw [List.cons_append, numL, numL]
    split at h
    · cases h
    · rename_i hc
      rw [if_neg hc, if_neg hc]
      exact numL_snoc r _ c h
theorem numL_digs {n : Nat} (hn : n ≤ 65536) : ∀ (s k : Nat), k + s ≤ 20 → n / 8 ^ (k + s) = 0 → numL 0 (digs n s k) = (((n / 8 ^ k : Nat) : Int), true)
  | 0, k, _, h => by rw [Nat.add_zero] at h; rw [h]; rfl
  | s + 1, k, hk, h => by
    have ih := numL_digs hn s (k + 1) (by omega) (by rw [show k + 1 + s = k + (s + 1) by omega]; exact h)
    rw [digs, numL_snoc _ _ _ (by rw [ih]), ih, octV_eq (by omega) (by omega)]
    have hm : n / 8 ^ k % 8 < 8 := Nat.mod_lt _ (by omega)
    have hd : n / 8 ^ (k + 1) = n / 8 ^ k / 8 := by rw [Nat.pow_succ, Nat.div_div_eq_div_mul]
    have hle : n / 8 ^ k ≤ n := Nat.div_le_self ..
    rw [hd]
    generalize n / 8 ^ k = q at hm hle ⊢
    rw [if_neg (by omega), nextN_eq (by omega) (by omega)]
    congr 1
    omega
theorem num_octal {n : Nat} (hn : n ≤ 65536) : numL 0 ((octal n 11).take 11) = ((n : Int), true) := by
  rw [show (11 : Int) = ((11 : Nat) : Int) from rfl, octal_digs, List.take_append_of_le_length (by rw [digs_len]; omega), List.take_of_length_le (by rw [digs_len]; omega), numL_digs hn 11 0 (by omega) (Nat.div_eq_of_lt (by omega))]
  rw [Nat.pow_zero, Nat.div_one]

/-! ### the fields of a head -/
theorem cp_eq {es ns : List Int} {k : Nat} (h : k + ns.length ≤ es.length) : cp es k ns = es.take k ++ ns ++ es.drop (k + ns.length) := by
  unfold cp
  have e : min ns.length ((es.length : Int) - k).toNat = ns.length := by omega
  rw [e, List.take_length]
/-- what stands between two places -/
def mid (l : List Int) (a b : Nat) : List Int := (l.take b).drop a
theorem mid_cp_in {es ns : List Int} {k : Nat} (h : k + ns.length ≤ es.length) {b : Nat} (hb : b ≤ ns.length) : mid (cp es k ns) k (k + b) = ns.take b := by
  unfold mid
  rw [cp_eq h, List.take_append_of_le_length (by simp only [List.length_append, List.length_take]; omega), List.take_append, List.drop_append]
  have e1 : (es.take k).length = k := by rw [List.length_take]; omega
  rw [List.length_take, e1, List.drop_eq_nil_of_le (by simp only [List.length_take]; omega), List.nil_append, show k - min (k + b) k = 0 by omega, List.drop_zero, show k + b - k = b by omega]
theorem get_cp {es ns : List Int} {k : Nat} (h : k + ns.length ≤ es.length) {i : Nat} (hi : i < k ∨ k + ns.length ≤ i) : (cp es k ns)[i]? = es[i]? := by
  rw [cp_eq h]
  have e1 : (es.take k).length = k := by rw [List.length_take]; omega
  rcases hi with hi | hi
  · rw [List.append_assoc, List.getElem?_append_left (by omega), List.getElem?_take_of_lt hi]
  · rw [List.getElem?_append_right (by rw [List.length_append]; omega), List.getElem?_drop, List.length_append, e1]
    congr 1; omega
theorem mid_ext {l m : List Int} {a b : Nat} (h : ∀ i, a ≤ i → i < b → l[i]? = m[i]?) : mid l a b = mid m a b := by
  unfold mid
  apply List.ext_getElem?
  intro i
  rw [List.getElem?_drop, List.getElem?_drop, List.getElem?_take, List.getElem?_take]
  split
  · exact h _ (by omega) (by assumption)
  · rfl
theorem mid_cp_out {es ns : List Int} {k : Nat} (h : k + ns.length ≤ es.length) {a b : Nat} (hb : b ≤ k ∨ k + ns.length ≤ a) : mid (cp es k ns) a b = mid es a b :=
  mid_ext fun i h1 h2 => get_cp h (by omega)
theorem mid_set {es : List Int} {k : Nat} {x : Int} {a b : Nat} (hb : b ≤ k ∨ k < a) : mid (es.set k x) a b = mid es a b :=
  mid_ext fun i h1 h2 => by rw [List.getElem?_set_ne (by omega)]
theorem sumF_ext : ∀ (l m : List Int) (k : Nat), l.length = m.length → (∀ i, ¬ (148 ≤ k + i ∧ k + i < 156) → l[i]? = m[i]?) → sumF k l = sumF k m
  | [], [], _, _, _ => rfl
  | [], _ :: _, _, h, _ => by simp at h
  | _ :: _, [], _, h, _ => by simp at h
  | x :: l, y :: m, k, hl, h => by
    rw [sumF, sumF, sumF_ext l m (k + 1) (by simpa using hl) fun i hi => by
      have := h (i + 1) (by omega)
      simpa using this]
    congr 1
    split
    · rfl
    · rename_i hk
      have := h 0 (by omega)
      simpa using this
section
variable (f : File) (hf : f.1.size ≤ 99)
/-- the head, field by field -/
def hd0 : List Int := cp0 (List.replicate 512 0) (strB f.1)
def hd1 : List Int := cp (hd0 f) 100 (octal (if f.2.1 then 493 else 420) 7)
def hd2 : List Int := cp (hd1 f) 108 (octal 0 7)
def hd3 : List Int := cp (hd2 f) 116 (octal 0 7)
def hd4 : List Int := cp (hd3 f) 124 (octal f.2.2.length 11)
def hd5 : List Int := cp (hd4 f) 136 (octal 0 11)
def hd6 : List Int := (hd5 f).set 156 (if f.2.1 then 53 else 48)
theorem headA_hd : headA f = cp (hd6 f) 257 ustar := rfl
theorem o7 (n : Int) : (octal n 7).length = 8 := octal_len n 7
theorem o11 (n : Int) : (octal n 11).length = 12 := octal_len n 11
theorem o6 (n : Int) : (octal n 6 ++ [32]).length = 8 := by rw [List.length_append, octal_len n 6]; rfl
theorem ustar_len : ustar.length = 8 := by decide +kernel
include hf
theorem hd0_len : (hd0 f).length = 512 := by
  unfold hd0
  have hn := strB_length f.1
  rw [cp0_len (by rw [List.length_replicate]; omega)]; exact List.length_replicate
theorem hd1_len : (hd1 f).length = 512 := by
  have := hd0_len f hf
  unfold hd1; rw [cp_len (by rw [o7]; omega)]; exact this
theorem hd2_len : (hd2 f).length = 512 := by
  have := hd1_len f hf
  unfold hd2; rw [cp_len (by rw [o7]; omega)]; exact this
theorem hd3_len : (hd3 f).length = 512 := by
  have := hd2_len f hf
  unfold hd3; rw [cp_len (by rw [o7]; omega)]; exact this
theorem hd4_len : (hd4 f).length = 512 := by
  have := hd3_len f hf
  unfold hd4; rw [cp_len (by rw [o11]; omega)]; exact this
theorem hd5_len : (hd5 f).length = 512 := by
  have := hd4_len f hf
  unfold hd5; rw [cp_len (by rw [o11]; omega)]; exact this
theorem hd6_len : (hd6 f).length = 512 := by
  unfold hd6; rw [List.length_set]; exact hd5_len f hf
theorem headA_len : (headA f).length = 512 := by
  have := hd6_len f hf
  rw [headA_hd, cp_len (by rw [ustar_len]; omega)]; exact this
theorem sum_head : sumF 0 (headF f) = sumF 0 (headA f) := by
  have h := headA_len f hf
  have o := o6 (sumF 0 (headA f))
  refine sumF_ext _ _ 0 (by rw [headF_len f hf, h]) fun i hi => ?_
  unfold headF
  exact get_cp (by omega) (by omega)
theorem sumOk_head : sumOk (headF f) = true := by
  have h := headA_len f hf
  have o := o6 (sumF 0 (headA f))
  unfold sumOk
  rw [sum_head f hf]
  have e : mid (headF f) 148 (148 + 8) = (octal (sumF 0 (headA f)) 6 ++ [32]).take 8 := by
    unfold headF
    exact mid_cp_in (by omega) (by omega)
  rw [List.take_of_length_le (by omega)] at e
  exact beq_iff_eq.2 e
theorem size_head : mid (headF f) 124 135 = (octal f.2.2.length 11).take 11 := by
  have h := headA_len f hf
  have h6 := hd6_len f hf
  have h4 := hd4_len f hf
  have h3 := hd3_len f hf
  have o := o6 (sumF 0 (headA f))
  unfold headF
  rw [mid_cp_out (by omega) (by omega), headA_hd, mid_cp_out (by rw [ustar_len]; omega) (by omega)]
  unfold hd6
  rw [mid_set (by omega)]
  unfold hd5
  rw [mid_cp_out (by rw [o11]; omega) (by omega)]
  unfold hd4
  exact mid_cp_in (k := 124) (b := 11) (by rw [o11]; omega) (by rw [o11]; omega)
theorem name_head : (headF f).take 100 = strB f.1 ++ List.replicate (100 - f.1.size) 0 := by
  have h := headA_len f hf
  have h6 := hd6_len f hf
  have h4 := hd4_len f hf
  have h3 := hd3_len f hf
  have h2 := hd2_len f hf
  have h1 := hd1_len f hf
  have h0 := hd0_len f hf
  have hn := strB_length f.1
  have o := o6 (sumF 0 (headA f))
  have m0 : ∀ l : List Int, l.take 100 = mid l 0 100 := fun l => rfl
  rw [m0]
  unfold headF
  rw [mid_cp_out (by omega) (by omega), headA_hd, mid_cp_out (by rw [ustar_len]; omega) (by omega)]
  unfold hd6
  rw [mid_set (by omega)]
  unfold hd5
  rw [mid_cp_out (by rw [o11]; omega) (by omega)]
  unfold hd4
  rw [mid_cp_out (by rw [o11]; omega) (by omega)]
  unfold hd3
  rw [mid_cp_out (by rw [o7]; omega) (by omega)]
  unfold hd2
  rw [mid_cp_out (by rw [o7]; omega) (by omega)]
  unfold hd1
  rw [mid_cp_out (by rw [o7]; omega) (by omega)]
  unfold hd0 cp0 mid
  have e1 : min (strB f.1).length (List.replicate 512 (0 : Int)).length = f.1.size := by rw [List.length_replicate]; omega
  have e2 : (strB f.1).take f.1.size = strB f.1 := List.take_of_length_le (by omega)
  rw [List.drop_zero, e1, List.take_zero, List.nil_append, e2, Nat.zero_add, List.drop_replicate, List.take_append, List.take_of_length_le (i := 100) (by omega), List.take_replicate, hn, show min (100 - f.1.size) (512 - f.1.size) = 100 - f.1.size by omega]
theorem kind_head : (headF f).getD 156 0 = if f.2.1 then 53 else 48 := by
  have h := headA_len f hf
  have h6 := hd6_len f hf
  have h5 := hd5_len f hf
  have o := o6 (sumF 0 (headA f))
  rw [List.getD_eq_getElem?_getD]
  unfold headF
  rw [get_cp (by omega) (by omega), headA_hd, get_cp (by rw [ustar_len]; omega) (by omega)]
  unfold hd6
  rw [List.getElem?_set_self (by omega), Option.getD_some]
theorem oneN_head (hl : f.2.2.length ≤ 65536) : oneN (headF f) = ((f.2.2.length : Int), true) := by
  unfold oneN
  have := size_head f hf
  unfold mid at this
  rw [this, num_octal hl]
end
/-! ### a name, and a nought behind it -/
theorem txt_strB (s : ByteArray) : txt (strB s) = s := by
  unfold txt strOfNums strB
  rw [List.map_map]
  have : ((fun n : Int => UInt8.ofNat n.toNat) ∘ fun c : UInt8 => (c.toNat : Int)) = id := by
    funext c; simp
  rw [this, List.map_id]
theorem bytes_strB (s : ByteArray) : Lib.bytesOf (strB s) = s.data.toList := by
  unfold Lib.bytesOf strB
  rw [List.map_map]
  conv => rhs; rw [← List.map_id s.data.toList]
  congr 1
  funext c; simp
theorem cutN_name {s : ByteArray} (h : idxS s 0 < 0) {n : Nat} (hn : 0 < n) : cutN (strB s ++ List.replicate n 0) = strB s := by
  have hz : Lib.indexByte s.data.toList 0 = -1 := by
    have := Lib.indexByte_ge s.data.toList 0
    have h' : Lib.indexByte s.data.toList 0 < 0 := h
    omega
  have hno := Lib.indexByte_none hz
  have hl := strB_length s
  have hb : Lib.bytesOf (strB s ++ List.replicate n 0) = s.data.toList ++ List.replicate n 0 := by
    rw [← bytes_strB]; unfold Lib.bytesOf; rw [List.map_append, List.map_replicate]; rfl
  have hsl : s.data.toList.length = s.size := Array.length_toList
  have hi : idxB (strB s ++ List.replicate n 0) 0 = s.size := by
    unfold idxB
    rw [hb]
    have hge := Lib.indexByte_ge (s.data.toList ++ List.replicate n (0 : UInt8)) 0
    show Lib.indexByte (s.data.toList ++ List.replicate n 0) 0 = s.size
    have hat : (s.data.toList ++ List.replicate n (0 : UInt8))[s.size]? = some 0 := by
      rw [List.getElem?_append_right (by omega), hsl, Nat.sub_self, List.getElem?_replicate]; simp [hn]
    by_cases hm : Lib.indexByte (s.data.toList ++ List.replicate n (0 : UInt8)) 0 = -1
    · exact absurd hat (Lib.indexByte_none hm _)
    obtain ⟨o, ho⟩ : ∃ o : Nat, Lib.indexByte (s.data.toList ++ List.replicate n (0 : UInt8)) 0 = o := ⟨(Lib.indexByte (s.data.toList ++ List.replicate n (0 : UInt8)) 0).toNat, by omega⟩
    obtain ⟨g1, g2⟩ := Lib.indexByte_some ho
    rw [ho]
    by_cases h1 : o < s.size
    · rw [List.getElem?_append_left (by omega)] at g1
      exact absurd g1 (hno o)
    · by_cases h2 : s.size < o
      · exact absurd hat (g2 _ h2)
      · omega
  unfold cutN
  rw [hi, if_pos (by omega), Int.toNat_natCast, List.take_append_of_le_length (by omega), List.take_of_length_le (by omega)]

/-! ### files -/
theorem fullBad_mem : ∀ {l : List File} {m : Int}, fullBad m l = false → 0 ≤ m → ∀ f ∈ l, m + blkF f ≤ 128
  | [], _, _, _, f, hf => by cases hf
  | g :: r, m, h, hm, f, hf => by
    rw [fullBad, Bool.or_eq_false_iff, decide_eq_false_iff_not] at h
    have hb : 0 ≤ blkF g := by
      unfold blkF
      have : 0 ≤ imin (g.2.2.length : Int) 65536 := by unfold imin; split <;> omega
      have := blocksF_le this; omega
    rcases List.mem_cons.1 hf with rfl | hf
    · omega
    · have := fullBad_mem h.2 (by omega) f hf
      omega
theorem tMay_one {l : List File} (h : tMay l = 0) {f : File} (hf : f ∈ l) : tMay [f] = 0 := by
  obtain ⟨-, h1, h2, h3, -⟩ := tMay_zero h
  have n1 : nameBad f = false := by have := List.any_eq_false.1 h1 f hf; simpa using this
  have n2 : dirBad f = false := by have := List.any_eq_false.1 h2 f hf; simpa using this
  have n3 := fullBad_mem h3 (by omega) f hf
  unfold tMay
  have a1 : [f].any nameBad = false := by rw [List.any_cons, n1]; rfl
  have a2 : [f].any dirBad = false := by rw [List.any_cons, n2]; rfl
  have a3 : fullBad 2 [f] = false := by rw [fullBad, fullBad, decide_eq_false (by omega)]; rfl
  rw [if_neg (by rw [a1]; simp), if_neg (by rw [a2]; simp), if_neg (by rw [a3]; simp)]
theorem nameBad_f {f : File} (h : nameBad f = false) : f.1.size ≤ 99 ∧ idxS f.1 0 < 0 := by
  unfold nameBad at h
  simp only [Bool.or_eq_false_iff, decide_eq_false_iff_not] at h
  omega
theorem oneFl_file {f : File} (h : tMay [f] = 0) (r : List Int) : oneFl (headF f) (f.2.2 ++ r) = f := by
  obtain ⟨-, h1, -, -, h4⟩ := tMay_zero h
  have n1 : nameBad f = false := by have := List.any_eq_false.1 h1 f (List.mem_singleton.2 rfl); simpa using this
  obtain ⟨hs, hi⟩ := nameBad_f n1
  have hl := (of_decide_eq_true (List.all_eq_true.1 h4 f (List.mem_singleton.2 rfl))).2
  unfold oneFl
  rw [name_head f hs, cutN_name hi (by omega), txt_strB, kind_head f hs, oneN_head f hs hl]
  obtain ⟨p, d, c⟩ := f
  cases d <;> simp
theorem oneE_file {f : File} (h : tMay [f] = 0) (r : List Int) : oneE (headF f) (f.2.2 ++ padF f.2.2 ++ r) = 0 ∧ oneR (headF f) (f.2.2 ++ padF f.2.2 ++ r) = r := by
  obtain ⟨-, h1, -, -, h4⟩ := tMay_zero h
  have n1 : nameBad f = false := by have := List.any_eq_false.1 h1 f (List.mem_singleton.2 rfl); simpa using this
  obtain ⟨hs, hi⟩ := nameBad_f n1
  have hl := (of_decide_eq_true (List.all_eq_true.1 h4 f (List.mem_singleton.2 rfl))).2
  have hb := blocksF_le (n := (f.2.2.length : Int)) (by omega)
  have hp : (padF f.2.2).length = (blocksF f.2.2.length * 512 - f.2.2.length).toNat := by unfold padF; exact List.length_replicate
  have e1 : (blocksF f.2.2.length * 512).toNat = f.2.2.length + (padF f.2.2).length := by omega
  have e : oneE (headF f) (f.2.2 ++ padF f.2.2 ++ r) = 0 := by
    unfold oneE
    rw [sumOk_head f hs, oneN_head f hs hl, if_neg (by simp), if_neg (by
      simp only [List.length_append, Bool.true_eq_false, false_or, Int.natCast_add]
      omega)]
    rw [List.append_assoc, oneFl_file h, h]
    rw [if_neg (by
      rw [not_or, not_or]
      refine ⟨by simp, by simp, ?_⟩
      dsimp only
      rw [e1, ← List.append_assoc, List.take_append_of_le_length (by rw [List.length_append]; omega), List.take_of_length_le (by rw [List.length_append]; omega), Int.toNat_natCast, List.drop_append_of_le_length (by omega), List.drop_eq_nil_of_le (by omega), List.nil_append]
      have : zeroF (padF f.2.2) = true := List.all_eq_true.2 fun x hx => by
        unfold padF at hx
        rw [List.eq_of_mem_replicate hx]; rfl
      rw [this]; simp)]
  refine ⟨e, ?_⟩
  unfold oneR
  rw [if_pos e, oneN_head f hs hl]
  dsimp only
  rw [e1, List.drop_append_of_le_length (by rw [List.length_append]; omega), List.drop_eq_nil_of_le (by rw [List.length_append]; omega), List.nil_append]
theorem zero_head {f : File} (hs : f.1.size ≤ 99) : zeroF (headF f) = false := by
  cases hz : zeroF (headF f) with
  | false => rfl
  | true =>
    exfalso
    have hk := kind_head f hs
    have hl := headF_len f hs
    rw [List.getD_eq_getElem?_getD, List.getElem?_eq_getElem (by omega)] at hk
    have := List.all_eq_true.1 hz _ (List.getElem_mem (l := headF f) (n := 156) (by omega))
    have h0 : (headF f)[156]'(by omega) = 0 := by simpa using this
    rw [h0] at hk
    split at hk <;> simp at hk
theorem rdL_arc : ∀ (l : List File) (n : Nat), (∀ f ∈ l, tMay [f] = 0) → l.length < n → rdL n (l.flatMap fileB ++ List.replicate 1024 0) = (0, l, List.replicate 1024 0)
  | [], 0, _, h => by omega
  | [], n + 1, _, _ => by
    rw [rdL, List.flatMap_nil, List.nil_append, if_neg (by rw [List.length_replicate]; omega), if_pos]
    exact List.all_eq_true.2 fun x hx => by
      rw [List.take_replicate] at hx
      rw [List.eq_of_mem_replicate hx]; rfl
  | _ :: _, 0, _, h => by simp at h
  | f :: r, n + 1, h, hn => by
    have ht := h f (List.mem_cons_self ..)
    obtain ⟨-, h1, -, -, -⟩ := tMay_zero ht
    have n1 : nameBad f = false := by have := List.any_eq_false.1 h1 f (List.mem_singleton.2 rfl); simpa using this
    have hs := (nameBad_f n1).1
    have hl := headF_len f hs
    have e : (f :: r).flatMap fileB ++ List.replicate 1024 0 = headF f ++ (f.2.2 ++ padF f.2.2 ++ (r.flatMap fileB ++ List.replicate 1024 0)) := by
      rw [List.flatMap_cons]; unfold fileB; simp only [List.append_assoc]
    have e2 : (headF f ++ (f.2.2 ++ padF f.2.2 ++ (r.flatMap fileB ++ List.replicate 1024 0))).take 512 = headF f := by
      rw [List.take_append_of_le_length (by omega), List.take_of_length_le (by omega)]
    have e3 : (headF f ++ (f.2.2 ++ padF f.2.2 ++ (r.flatMap fileB ++ List.replicate 1024 0))).drop 512 = f.2.2 ++ padF f.2.2 ++ (r.flatMap fileB ++ List.replicate 1024 0) := by
      rw [List.drop_append_of_le_length (by omega), List.drop_eq_nil_of_le (by omega), List.nil_append]
    obtain ⟨g1, g2⟩ := oneE_file ht (r.flatMap fileB ++ List.replicate 1024 0)
    have ih := rdL_arc r n (fun g hg => h g (List.mem_cons_of_mem _ hg)) (by simp only [List.length_cons] at hn; omega)
    rw [e, rdL, e2, e3, if_neg (by rw [List.length_append]; omega), if_neg (by rw [zero_head hs]; simp), if_neg (by rw [g1]; simp), g2, ih]
    have : oneF' (headF f) (f.2.2 ++ padF f.2.2 ++ (r.flatMap fileB ++ List.replicate 1024 0)) = f := by
      unfold oneF'
      rw [if_pos g1, List.append_assoc, oneFl_file ht]
    rw [this]
/-- an archive that is written is read -/
theorem readT_arc {l : List File} (h : tMay l = 0) : readT (arcF l) = (0, l) := by
  have hlen := tMay_len h
  have hpos : l.length < (arcF l).length := by
    have key : ∀ (l : List File), (∀ f ∈ l, f.1.size ≤ 99) → l.length ≤ (l.flatMap fileB).length := by
      intro l
      induction l with
      | nil => intro _; exact Nat.zero_le _
      | cons f r ih =>
        intro hs
        have := ih fun g hg => hs g (List.mem_cons_of_mem _ hg)
        have hl := headF_len f (hs f (List.mem_cons_self ..))
        rw [List.flatMap_cons, List.length_append, List.length_cons]
        unfold fileB at this ⊢
        simp only [List.length_append]
        omega
    have := key l fun f hf => (of_decide_eq_true (List.all_eq_true.1 (tMay_zero h).2.2.2.2 f hf)).1
    unfold arcF
    rw [List.length_append, List.length_replicate]; omega
  have e := rdL_arc l (arcF l).length (fun f hf => tMay_one h hf) hpos
  unfold readT
  have e' : rdL (arcF l).length (arcF l) = (0, l, List.replicate 1024 0) := e
  rw [e', if_neg (by simp), if_neg]
  rw [not_or, not_or]
  refine ⟨by simp, ?_, by omega⟩
  have : zeroF (List.replicate 1024 (0 : Int)) = true := List.all_eq_true.2 fun x hx => by rw [List.eq_of_mem_replicate hx]; rfl
  rw [this]; simp
end Go.Proofs.YtdngaaploooceaaGreatDoor.Sy

/- Plain laws: an image that is written is read: it is the same. -/
set_option maxRecDepth 100000
namespace Go.Proofs.YtdngaaploooceaaGreatDoor.Sy
open Go.RowKit Kit Go.Proofs
theorem w8_eq {n : Int} (h : 0 ≤ n ∧ n ≤ 255) : w8 n = n := by
  have e : IntKind.wrap .u8 n = n % 256 := by simp [IntKind.wrap, IntKind.bits, IntKind.signed]
  unfold w8; omega
theorem w8_mod (n : Int) : w8 n = n % 256 := by
  have e : IntKind.wrap .u8 n = n % 256 := by simp [IntKind.wrap, IntKind.bits, IntKind.signed]
  exact e
theorem hi8_eq (n : Int) : hi8 n = n / 256 % 256 := by
  have e : ∀ n, IntKind.wrap .u8 n = n % 256 := fun n => by simp [IntKind.wrap, IntKind.bits, IntKind.signed]
  unfold hi8
  rw [e, Int.fdiv_eq_ediv_of_nonneg _ (by omega)]; rfl
theorem num2_eq {a b : Int} (ha : 0 ≤ a ∧ a ≤ 255) (hb : 0 ≤ b ∧ b ≤ 255) : num2 a b = a * 256 + b := by
  unfold num2
  rw [wrap_i64n (n := a) (by omega)]
  exact or_sum (k := 8) (by omega) (by omega) (by omega)
theorem num2_two {n : Int} (h : 0 ≤ n ∧ n ≤ 65535) : num2 (hi8 n) (w8 n) = n := by
  rw [hi8_eq, w8_mod, num2_eq (by omega) (by omega)]; omega
/-! ### programs -/
theorem takeF_ok {b r : List Int} {n : Int} (h : (b.length : Int) = n) : takeF (b ++ r, false) n = (b, (r, false)) := by
  unfold takeF
  have e : n.toNat = b.length := by omega
  rw [if_neg (by rw [not_or]; refine ⟨by simp, ?_⟩; rw [List.length_append]; omega), e]
  simp
theorem oneF_cons {x : Int} {r : List Int} (h : 0 ≤ x ∧ x ≤ 255) : oneF (x :: r, false) = (x, (r, false)) := by
  unfold oneF
  have := takeF_ok (b := [x]) (r := r) (n := 1) rfl
  rw [show [x] ++ r = x :: r from rfl] at this
  rw [this]
  show (IntKind.wrap .i64 x, _) = _
  rw [wrap_i64n (by omega)]
theorem namesF_back : ∀ (N : List ByteArray) (r : List Int), N.all (fun s => decide (s.size ≤ 255)) = true → namesF N.length (N.flatMap nameB ++ r, false) = (N, (r, false))
  | [], r, _ => rfl
  | s :: N, r, h => by
    rw [List.all_cons, Bool.and_eq_true, decide_eq_true_eq] at h
    have hs := strB_length s
    have ih := namesF_back N r h.2
    have e : (s :: N).flatMap nameB ++ r = w8 s.size :: (strB s ++ (N.flatMap nameB ++ r)) := by
      rw [List.flatMap_cons]; unfold nameB; simp
    rw [e, List.length_cons, namesF, w8_eq (by omega), oneF_cons (by omega)]
    dsimp only
    rw [takeF_ok (by omega)]
    dsimp only
    rw [ih, txt_strB]
theorem lookI_mem {x : Int} {v : Int × Int × Int} : ∀ {l : List (Int × (Int × Int × Int))}, lookI x l = some v → (x, v) ∈ l
  | [], h => by cases h
  | (k, w) :: r, h => by
    rw [lookI] at h
    split at h
    · rename_i hk; subst hk; cases h; exact List.mem_cons_self ..
    · exact List.mem_cons_of_mem _ (lookI_mem h)
theorem iTab_range {x : Int} {v : Int × Int × Int} (h : iTab x = some v) : 1 ≤ x ∧ x ≤ 41 ∧ v.2.2 ≤ 65536 := by
  have hall : iTabL.all (fun p => decide (1 ≤ p.1 ∧ p.1 ≤ 41 ∧ p.2.2.2 ≤ 65536)) = true := by decide +kernel
  exact of_decide_eq_true (List.all_eq_true.1 hall _ (lookI_mem h))
theorem iMay_range {i : Int × Int} (h : iMay i = true) : (1 ≤ i.1 ∧ i.1 ≤ 41) ∧ 0 ≤ i.2 ∧ i.2 ≤ 65535 := by
  unfold iMay at h
  cases hk : iTab i.1 with
  | none => rw [hk] at h; cases h
  | some k =>
    rw [hk] at h
    have := iTab_range hk
    simp only [Bool.and_eq_true, decide_eq_true_eq] at h
    omega
theorem instsF_back : ∀ (L : List (Int × Int)) (r : List Int), L.all iMay = true → instsF L.length (L.flatMap instB ++ r, false) = (L, (r, false))
  | [], r, _ => rfl
  | i :: L, r, h => by
    rw [List.all_cons, Bool.and_eq_true] at h
    have ih := instsF_back L r h.2
    obtain ⟨h1, h2⟩ := iMay_range h.1
    have e : (i :: L).flatMap instB ++ r = instB i ++ (L.flatMap instB ++ r) := by
      rw [List.flatMap_cons, List.append_assoc]
    rw [e, List.length_cons, instsF, takeF_ok (n := 3) rfl]
    dsimp only
    rw [ih]
    have : instF (instB i) = i := by
      show (IntKind.wrap .i64 (w8 i.1), num2 (hi8 i.2) (w8 i.2)) = i
      rw [w8_eq (by omega), wrap_i64n (by omega), num2_two h2]
    rw [this]
theorem read_back {p : Prog} (h : pMay p = 0) : readE (pBytes p) = 0 ∧ readP (pBytes p) = p := by
  obtain ⟨L, N⟩ := p
  obtain ⟨h1, h2, h3, h4⟩ := pMay_zero (L := L) (N := N) h
  have hb : pBytes (L, N) = 88 :: (82 :: ((N.length : Int) :: (N.flatMap nameB ++ ((L.length : Int) :: (L.flatMap instB ++ []))))) := by
    unfold pBytes
    rw [w8_eq (n := ((L, N) : Prog).2.length) (by dsimp only; omega), w8_eq (n := ((L, N) : Prog).1.length) (by dsimp only; omega)]
    simp
  have f1 := oneF_cons (x := 88) (r := 82 :: ((N.length : Int) :: (N.flatMap nameB ++ ((L.length : Int) :: (L.flatMap instB ++ []))))) (by omega)
  have f2 := oneF_cons (x := 82) (r := (N.length : Int) :: (N.flatMap nameB ++ ((L.length : Int) :: (L.flatMap instB ++ [])))) (by omega)
  have f3 := oneF_cons (x := (N.length : Int)) (r := N.flatMap nameB ++ ((L.length : Int) :: (L.flatMap instB ++ []))) (by omega)
  have f4 := oneF_cons (x := (L.length : Int)) (r := L.flatMap instB ++ []) (by omega)
  have hF : readF (pBytes (L, N)) = ((L, N), ([], false)) := by
    unfold readF
    rw [hb, f1]
    dsimp only
    rw [f2]
    dsimp only
    rw [f3]
    dsimp only
    rw [Int.toNat_natCast, namesF_back N _ h3]
    dsimp only
    rw [f4]
    dsimp only
    rw [Int.toNat_natCast, instsF_back L _ h4]
  have hE : readE (pBytes (L, N)) = 0 := by
    have hbad : readBad (pBytes (L, N)) = false := by
      unfold readBad
      rw [hb, f1]
      dsimp only
      rw [f2]
      rfl
    unfold readE
    rw [hbad, hF, if_neg (by simp), if_neg (by simp)]
    exact h
  refine ⟨hE, ?_⟩
  unfold readP
  rw [if_pos hE, hF]
/-! ### traces -/
theorem truth_one (b : Bool) : (truth b == 1) = b := by cases b <;> rfl
def trcR (t : Trc) : Bool := t.1.all (fun e => decide (0 ≤ e.2 ∧ e.2 ≤ 65535)) && decide (0 ≤ t.2.2 ∧ t.2.2 ≤ 65535)
theorem wrap_u16 {n : Int} (h : 0 ≤ n ∧ n ≤ 65535) : IntKind.wrap .u16 n = n := by
  have e : IntKind.wrap .u16 n = n % 65536 := by simp [IntKind.wrap, IntKind.bits, IntKind.signed]
  omega
theorem evF_back {e : Bool × Int} (h : 0 ≤ e.2 ∧ e.2 ≤ 65535) (r : List Int) : evF (evB e ++ r) = e := by
  show (truth e.1 == 1, IntKind.wrap .u16 (num2 (hi8 (IntKind.wrap .i64 e.2)) (w8 (IntKind.wrap .i64 e.2)))) = e
  rw [truth_one, wrap_i64n (by omega), num2_two h, wrap_u16 h]
theorem unL_back : ∀ (L : List (Bool × Int)) (n : Nat) (r : List Int), L.all (fun e => decide (0 ≤ e.2 ∧ e.2 ≤ 65535)) = true → r.length = 3 → L.length ≤ n → unL n (L.flatMap evB ++ r) = (L, r)
  | [], n, r, _, hr, _ => unL_less (by rw [List.flatMap_nil, List.nil_append]; omega)
  | e :: L, 0, r, _, _, hn => by simp at hn
  | e :: L, n + 1, r, h, hr, hn => by
    rw [List.all_cons, Bool.and_eq_true, decide_eq_true_eq] at h
    have ih := unL_back L n r h.2 hr (by simp only [List.length_cons] at hn; omega)
    have e1 : (e :: L).flatMap evB ++ r = evB e ++ (L.flatMap evB ++ r) := by rw [List.flatMap_cons, List.append_assoc]
    have e2 : (evB e ++ (L.flatMap evB ++ r)).drop 3 = L.flatMap evB ++ r := rfl
    rw [e1, unL, if_pos (by simp [evB, twoF]; omega), e2, ih, evF_back h.1]
theorem untrace_back {t : Trc} (hr : trcR t = true) (he : 0 ≤ t.2.1 ∧ t.2.1 ≤ 255) : untraceF (traceF t) = t := by
  obtain ⟨L, E, c⟩ := t
  simp only [trcR, Bool.and_eq_true, decide_eq_true_eq] at hr
  have e : traceF (L, E, c) = L.flatMap evB ++ ([w8 E] ++ twoF (IntKind.wrap .i64 c)) := by unfold traceF; rw [List.append_assoc]
  have hl : L.length ≤ (L.flatMap evB ++ ([w8 E] ++ twoF (IntKind.wrap .i64 c))).length := by
    have : ∀ L : List (Bool × Int), L.length ≤ (L.flatMap evB).length := by
      intro L
      induction L with
      | nil => exact Nat.zero_le _
      | cons x r ih => rw [List.flatMap_cons, List.length_append, List.length_cons]; simp only [evB, twoF, List.length_append, List.length_cons, List.length_nil]; omega
    have := this L
    rw [List.length_append]; omega
  have hu := unL_back L _ ([w8 E] ++ twoF (IntKind.wrap .i64 c)) hr.1 rfl hl
  rw [e]
  unfold untraceF
  rw [hu, if_pos (show ([w8 E] ++ twoF (IntKind.wrap .i64 c)).length = 3 from rfl)]
  show (L, IntKind.wrap .i64 (w8 E), IntKind.wrap .u16 (num2 (hi8 (IntKind.wrap .i64 c)) (w8 (IntKind.wrap .i64 c)))) = _
  rw [w8_eq he, wrap_i64n (n := E) (by dsimp only at he; omega), wrap_i64n (n := c) (by omega), num2_two hr.2, wrap_u16 hr.2]
/-! ### trees and arguments -/
theorem cutP_pre (p x : ByteArray) : cutP (p ++ x) p = (x, true) := by
  unfold cutP
  have hs : (p ++ x).size = p.size + x.size := ByteArray.size_append
  rw [if_pos ⟨by omega, ByteArray.extract_append_eq_left rfl⟩, hs, ByteArray.extract_append_eq_right rfl rfl]
theorem cutP_args (x : ByteArray) : (cutP (bs "args/" ++ x) (bs "tree/")).2 = false := by
  unfold cutP
  rw [if_neg]
  rintro ⟨-, h⟩
  have h5 : (bs "tree/").size = (bs "args/").size := by decide +kernel
  rw [h5, ByteArray.extract_append_eq_left rfl] at h
  exact absurd h (by decide +kernel)
/-- a tree whose files may have no bytes -/
def zCap (t : List Ent) : List Ent := t.map fun x => (x.1, x.2.1, 0)
theorem fold_tree : ∀ (t : List Ent) (fs : List (List Int)) (a : Acc), fs.length = (capsF t).length → (treeFs t fs).foldl addF a = (a.1 ++ zCap t, a.2.1, a.2.2.1 ++ fs, a.2.2.2)
  | [], fs, a, h => by
    have : fs = [] := List.length_eq_zero_iff.1 (by rw [h]; rfl)
    subst this
    show a = _
    simp [zCap]
  | x :: r, fs, a, h => by
    rw [treeFs_cons]
    rw [capsF] at h
    cases hd : x.2.1 with
    | true =>
      rw [hd] at h
      rw [if_pos rfl, List.foldl_cons, fold_tree r fs _ (by simpa using h)]
      unfold addF
      rw [cutP_pre]
      simp [zCap, hd]
    | false =>
      rw [hd] at h
      cases fs with
      | nil => simp at h
      | cons b fs =>
        rw [if_neg (by simp), List.foldl_cons, List.tail_cons, fold_tree r fs _ (by simpa using h)]
        unfold addF
        rw [cutP_pre]
        simp [zCap, hd]
theorem fold_args : ∀ (l : List (List Int)) (k : Int) (a : Acc), (argFs k l).foldl addF a = (a.1, a.2.1 ++ List.replicate l.length 0, a.2.2.1, a.2.2.2 ++ l)
  | [], k, a => by
    show a = _
    simp
  | x :: r, k, a => by
    rw [argFs, List.foldl_cons, fold_args r]
    unfold addF
    rw [cutP_args]
    simp [List.replicate_succ]
theorem filesK_zCap : ∀ (t : List Ent) (k : Int), filesK k (zCap t) = filesK k t
  | [], _ => rfl
  | x :: r, k => by
    have ih := filesK_zCap r (k + 1)
    unfold zCap at ih ⊢
    rw [List.map_cons, filesK, filesK, ih]
theorem setAt_back : ∀ (t pre : List Ent) (r : List Int), t.all entOk = true → setAt (pre ++ zCap t) (filesK pre.length t) ((capsF t).map w8 ++ r) = pre ++ t
  | [], pre, r, _ => by simp [zCap, filesK, setAt]
  | x :: t, pre, r, h => by
    rw [List.all_cons, Bool.and_eq_true] at h
    obtain ⟨p, d, c⟩ := x
    have hx := h.1
    simp only [entOk, Bool.and_eq_true, decide_eq_true_eq, Bool.not_eq_true', Bool.and_eq_false_iff] at hx
    have ih := fun y => setAt_back t (pre ++ [y]) r h.2
    have e : ∀ y : Ent, pre ++ [y] ++ zCap t = pre ++ y :: zCap t := fun y => by simp
    have ek : ∀ y : Ent, ((pre ++ [y]).length : Int) = (pre.length : Int) + 1 := fun y => by simp
    rw [filesK, capsF]
    show setAt (pre ++ (p, d, 0) :: zCap t) _ _ = _
    cases d with
    | true =>
      have hc : c = 0 := by rcases hx.2 with h' | h' <;> simp at h'; exact h'
      subst hc
      have := ih (p, true, 0)
      rw [e, ek] at this
      rw [if_pos rfl, if_pos rfl, this]; simp
    | false =>
      have := ih (p, false, c)
      rw [e, ek] at this
      rw [if_neg (by simp), if_neg (by simp), List.map_cons, List.cons_append, setAt]
      have hg : (pre ++ (p, false, (0 : Int)) :: zCap t).getD (pre.length : Int).toNat (ByteArray.empty, false, 0) = (p, false, 0) := by
        rw [Int.toNat_natCast, List.getD_eq_getElem?_getD, List.getElem?_append_right (by omega)]; simp
      rw [hg, Int.toNat_natCast]
      have hset : (pre ++ (p, false, (0 : Int)) :: zCap t).set pre.length (p, false, IntKind.wrap .i64 ((w8 c :: ((capsF t).map w8 ++ r)).getD 0 0)) = pre ++ (p, false, c) :: zCap t := by
        show (pre ++ (p, false, (0 : Int)) :: zCap t).set pre.length (p, false, IntKind.wrap .i64 (w8 c)) = _
        rw [w8_eq (by omega), wrap_i64n (by omega), List.set_append_right _ _ (Nat.le_refl _), Nat.sub_self, List.set_cons_zero]
      rw [hset, List.drop_succ_cons, List.drop_zero, this]; simp
theorem map_w8 {l : List Int} (h : l.all capOk = true) : (l.map w8).map (IntKind.wrap .i64) = l := by
  rw [List.map_map]
  conv => rhs; rw [← List.map_id l]
  refine List.map_congr_left fun x hx => ?_
  have := List.all_eq_true.1 h x hx
  simp only [capOk, Bool.and_eq_true, decide_eq_true_eq] at this
  show IntKind.wrap .i64 (w8 x) = x
  rw [w8_eq (by omega), wrap_i64n (by omega)]
theorem unkF_back {c : Cls} (h : cMay c = true) : unkF (zCap c.1, List.replicate c.2.1.length 0, 0, 0, 0) (kindF c) = (true, c) := by
  obtain ⟨t, ar, c1, c2, c3⟩ := c
  obtain ⟨g1, g2, g3, g4, g5, g6, g7, g8⟩ := cMay_f h
  dsimp only at *
  have hk : kindF (t, ar, c1, c2, c3) = c1 :: c2 :: hi8 c3 :: w8 c3 :: ((capsF t).map w8 ++ ar.map w8) := by
    unfold kindF capsC twoF
    dsimp only
    rw [w8_eq (n := c1) (by omega), w8_eq (n := c2) (by omega), List.map_append]; rfl
  have hc := capsF_files t
  rw [hk]
  unfold unkF
  dsimp only
  rw [filesK_zCap, if_neg (by simp), if_neg (by simp [hc])]
  have hs := setAt_back t [] (ar.map w8) g4
  simp only [List.nil_append, List.length_nil, Int.natCast_zero] at hs
  have hd : (c1 :: c2 :: hi8 c3 :: w8 c3 :: ((capsF t).map w8 ++ ar.map w8)).drop 4 = (capsF t).map w8 ++ ar.map w8 := rfl
  rw [hd]
  rw [show setAt (zCap t) (filesK 0 t) ((capsF t).map w8 ++ ar.map w8) = t from hs]
  rw [List.drop_append_of_le_length (by rw [List.length_map]; omega), List.drop_eq_nil_of_le (by rw [List.length_map]; omega), List.nil_append, map_w8 g5]
  show (true, t, ar, IntKind.wrap .i64 c1, IntKind.wrap .i64 c2, num2 (hi8 c3) (w8 c3)) = _
  rw [wrap_i64n (n := c1) (by omega), wrap_i64n (n := c2) (by omega), num2_two (by omega)]
/-! ### images -/
/-- its numbers are of their kinds -/
def imgR (m : Img) : Bool := imgU m && trcR m.2.2.2
theorem writeE_f {m : Img} (h : writeE m = 0) : pMay m.1 = 0 ∧ cMay m.2.1 = true ∧ cHas m.2.1 m.2.2.1 = true ∧ traceBad m.2.2.2 = false ∧ tMay (imgFs m) = 0 := by
  unfold writeE at h
  split at h
  · rename_i h'; exact absurd h h'
  rename_i h1
  split at h
  · exact absurd h (by decide)
  rename_i h2
  split at h
  · exact absurd h (by decide)
  rename_i h3
  split at h
  · exact absurd h (by decide)
  rename_i h4
  exact ⟨by simpa using h1, by simpa using h2, by simpa using h3, by simpa using h4, h⟩
theorem made_back {m : Img} (h : writeE m = 0) (hr : trcR m.2.2.2 = true) : madeF (imgFs m) = (true, m) := by
  obtain ⟨h1, h2, h3, h4, -⟩ := writeE_f h
  obtain ⟨p, c, i, t⟩ := m
  obtain ⟨ff, fa, fb⟩ := i
  dsimp only at *
  obtain ⟨g1, g2, g3, g4, g5⟩ := cHas_f h3
  dsimp only at g2 g3
  have hmid : ∀ (a x y z : File) (M : List File), mids ((a :: M) ++ [x, y, z]) = M ∧ ((a :: M) ++ [x, y, z]).getD 0 dF = a ∧ ((a :: M) ++ [x, y, z]).getD (((a :: M) ++ [x, y, z]).length - 3) dF = x ∧ ((a :: M) ++ [x, y, z]).getD (((a :: M) ++ [x, y, z]).length - 2) dF = y ∧ ((a :: M) ++ [x, y, z]).getD (((a :: M) ++ [x, y, z]).length - 1) dF = z := by
    intro a x y z M
    have hl : ((a :: M) ++ [x, y, z]).length = (a :: M).length + 3 := by simp
    refine ⟨?_, rfl, ?_, ?_, ?_⟩
    · unfold mids
      rw [hl, Nat.add_sub_cancel, List.take_left']
      · rfl
      · rfl
    all_goals
      rw [hl, List.getD_eq_getElem?_getD, List.getElem?_append_right (by omega)]
      simp
  have hi : imgFs (p, c, (ff, fa, fb), t) = ((bs "prog", false, pBytes p) :: (treeFs c.1 ff ++ argFs 0 fa)) ++ [(bs "fails", false, fb.map truth), (bs "class", false, kindF c), (bs "trace", false, traceF t)] := by
    unfold imgFs filesF
    simp
  obtain ⟨m1, m2, m3, m4, m5⟩ := hmid (bs "prog", false, pBytes p) (bs "fails", false, fb.map truth) (bs "class", false, kindF c) (bs "trace", false, traceF t) (treeFs c.1 ff ++ argFs 0 fa)
  have hacc : accF (imgFs (p, c, (ff, fa, fb), t)) = (zCap c.1, List.replicate c.2.1.length 0, ff, fa) := by
    unfold accF
    rw [hi, m1, List.foldl_append, fold_tree _ _ _ (by rw [g2, capsF_files]), fold_args]
    simp [g3]
  obtain ⟨r1, r2⟩ := read_back h1
  have hunk : unkOf (imgFs (p, c, (ff, fa, fb), t)) = (true, c) := by
    unfold unkOf
    rw [hacc, hi, m4]
    exact unkF_back h2
  have hb : 1 ≤ t.2.1 ∧ t.2.1 ≤ 5 := by
    simp only [traceBad, Bool.or_eq_false_iff, decide_eq_false_iff_not] at h4
    omega
  unfold madeF made2
  rw [hunk, hacc, hi, m2, m3, m5]
  dsimp only
  rw [r1, r2, if_neg (by simp; omega), untrace_back hr (by omega), List.map_map]
  have : (fun x : Int => x == 1) ∘ truth = id := by funext b; exact truth_one b
  rw [this, List.map_id]
/-- what is written is read, and is the same -/
theorem readI_round {m : Img} (h : writeE m = 0) (hr : trcR m.2.2.2 = true) : readI (writeB m) = (0, m) := by
  have h5 := (writeE_f h).2.2.2.2
  have e : readT (writeB m) = (0, imgFs m) := readT_arc h5
  unfold readI
  rw [e, made_back h hr]
  dsimp only
  rw [if_neg (by simp), if_neg (by simp), if_neg (by rw [h]; simp)]
theorem writeB_inj {m n : Img} (hm : writeE m = 0) (hn : writeE n = 0) (rm : trcR m.2.2.2 = true) (rn : trcR n.2.2.2 = true) (h : writeB m = writeB n) : m = n := by
  have a := readI_round hm rm
  have b := readI_round hn rn
  rw [h, b] at a
  exact (Prod.mk.inj a).2.symm
end Go.Proofs.YtdngaaploooceaaGreatDoor.Sy

/- Contracts: whether two are the same. -/
set_option maxRecDepth 100000
namespace Go.Proofs.YtdngaaploooceaaGreatDoor.Sy
open Go.RowKit Kit Go.Proofs
/-- from place k on they are the same -/
def sameAt {α : Type} [DecidableEq α] (a b : List α) (k : Nat) : Bool := decide (a.drop k = b.drop k)
theorem sameAt_step {α : Type} [DecidableEq α] {a b : List α} {k : Nat} (d : α) (ha : k < a.length) (hb : k < b.length) : sameAt a b k = (decide (a.getD k d = b.getD k d) && sameAt a b (k + 1)) := by
  unfold sameAt
  rw [Bool.eq_iff_iff, Bool.and_eq_true, decide_eq_true_iff, decide_eq_true_iff, decide_eq_true_iff, drop_at a k d ha, drop_at b k d hb, List.cons.injEq]
theorem sameAt_end {α : Type} [DecidableEq α] {a b : List α} {k : Nat} (ha : a.length ≤ k) (hb : b.length ≤ k) : sameAt a b k = true := by
  unfold sameAt
  rw [List.drop_eq_nil_of_le ha, List.drop_eq_nil_of_le hb]; exact decide_eq_true rfl
theorem eqB (x y : Bool) : (x == y) = decide (x = y) := by cases x <;> cases y <;> rfl
theorem eqI2 (x y : Int × Int) : ((x.1 == y.1) && ((x.2 == y.2) && true)) = decide (x = y) := by
  rw [Bool.eq_iff_iff]; simp [Prod.ext_iff]
theorem txt_inj2 {a b : List Int} (ha : u8s a = true) (hb : u8s b = true) : txt a = txt b ↔ a = b := by
  refine ⟨fun h => ?_, fun h => by rw [h]⟩
  have key : ∀ l : List Int, u8s l = true → strB (txt l) = l := fun l hl => by
    unfold strB txt strOfNums
    rw [List.toList_toArray, List.map_map]
    conv => rhs; rw [← List.map_id l]
    refine List.map_congr_left fun x hx => ?_
    have := u8_iff.1 (List.all_eq_true.1 hl x hx)
    show ((UInt8.ofNat x.toNat).toNat : Int) = x
    rw [UInt8.toNat_ofNat_of_lt' (by show x.toNat < 256; omega)]; omega
  rw [← key a ha, ← key b hb, h]
def CE : Cx := ⟨T, FL, [], [], []⟩
theorem CE_ok : CxOk Tryz.prog CE := ⟨T_ok, FL_ok, .nil _, .nil _⟩
noncomputable def fn33 := mkFn Tryz.f33
def q33 : Frm := ⟨26, [(0, .dat (.sl .bool)), (1, .dat (.sl .bool)), (5, .dat tI)], []⟩
def R33 : q33.V → Tr (Ex × St) := fun (((a : List Bool), (b : List Bool), (k : Int), _), _) =>
  .need (decide (0 ≤ k ∧ k ≤ a.length ∧ a.length = b.length ∧ (a.length : Int) ≤ 9223372036854775807)) (.ite (sameAt a b k.toNat) (.ret (.ex 0, ⟨26, [], []⟩)) (.ret (.rt, ⟨26, [(4, .e (.c (.kb false)))], []⟩)))
def lp33 : LP := [(0, sumP q33 R33)]
theorem lp33_ok : LpsOk 0 CE [] lp33 fn33.loops := by
  refine .all (by kernel_rfl) ?_
  simp only [lp33, List.forall_mem_cons, List.not_mem_nil, false_imp_iff, implies_true, and_true]
  refine .pat q33 R33 (fun v => (v.1.1.length - v.1.2.2.1).toNat) ?_
  rintro ⟨⟨(a : List Bool), (b : List Bool), (k : Int), ⟨⟩⟩, ⟨⟩⟩ ih
  refine Gives.run (t' := .ite (decide (k < (((List.length a) : Nat) : Int))) (.need (inR k (List.length a)) (.need (inR k (List.length b)) (.ite (!((List.getD a (Int.toNat k) false) == (List.getD b (Int.toNat k) false))) (.ret (.rt, ⟨26, [(4, .e (.c (.kb false)))], []⟩)) (.need (decide (((-(9223372036854775808 : Int) : Int) ≤ (k + (1 : Int) : Int)) ∧ ((k + (1 : Int) : Int) ≤ (9223372036854775807 : Int)))) (.ret (.nx, ⟨26, [(0, rL Ty.bool a), (1, rL Ty.bool b), (5, rI (k + (1 : Int) : Int))], []⟩)))))) (.ret (.ex 0, ⟨26, [], []⟩))) (by kernel_rfl) ?_
  refine .rnd fun ⟨h1, h2, h3, h4⟩ => ?_
  refine .lif (fun hk => ?_) (fun hk => ?_)
  · have e : (k + 1).toNat = k.toNat + 1 := by omega
    refine .lneed (inR_of h1 (by omega)) (.lneed (inR_of h1 (by omega)) ?_)
    rw [sameAt_step false (a := a) (b := b) (by omega) (by omega)]
    refine .lite (fun hx => ?_) (fun hx => ?_)
    · rw [eqB, Bool.not_eq_true'] at hx
      exact .rff (by rw [hx]; rfl) (.refl _)
    · rw [eqB, Bool.not_eq_false'] at hx
      refine .rb (by rw [hx, Bool.true_and]) (.lnd (by omega) ?_)
      refine Gives.next (σ' := q33.st ((a, b, k + 1, ()), ())) (by kernel_rfl) ((ih ((a, b, k + 1, ()), ()) (by simp only; omega)).trans ?_)
      refine .nd ⟨by omega, by omega, h3, h4⟩ ?_
      rw [e]; exact .refl _
  · rw [sameAt_end (by omega) (by omega)]; exact .rtt rfl (.refl _)
theorem sameB_ok : CtrOk Tryz.prog 33 (ctr (two (aVal (.sl .bool)) (aVal (.sl .bool))) fun a => ans (rB (decide (a.1 = a.2.1)))) := by
  refine .mk CE_ok mixed (q := fn33) (.of Tryz.func33 (by kernel_rfl)) lp33_ok (by decide) ?_
  rintro ⟨(a : List Bool), (b : List Bool), ⟨⟩⟩ hb
  refine Gives.of_eq (t' := .ite ((((List.length a) : Nat) : Int) != (((List.length b) : Nat) : Int)) (.ret (rB false, ⟨0, [], []⟩)) (.need (decide (((0 : Int) ≤ (0 : Int)) ∧ (((0 : Int) ≤ (((List.length a) : Nat) : Int)) ∧ (((List.length a) = (List.length b)) ∧ ((((List.length a) : Nat) : Int) ≤ (9223372036854775807 : Int)))))) (.ite (sameAt a b 0) (.ret (rB true, ⟨0, [], []⟩)) (.ret (rB false, ⟨0, [], []⟩))))) (by kernel_rfl) ?_
  show Gives _ (.ret (rB (decide (a = b)), St.nil))
  refine .ite (fun h => ?_) (fun h => ?_)
  · rw [decide_eq_false (fun e => by subst e; simp at h)]; exact .refl _
  have h : a.length = b.length := by have := bne_eq_false_iff_eq.1 h; omega
  have hl : a.length ≤ 9223372036854775807 := hb.1.1
  refine .nd ⟨by omega, by omega, h, by omega⟩ (.ite (fun h' => ?_) (fun h' => ?_))
  · unfold sameAt at h'; rw [List.drop_zero, List.drop_zero] at h'; rw [h']; exact .refl _
  · unfold sameAt at h'; rw [List.drop_zero, List.drop_zero] at h'; rw [h']; exact .refl _
noncomputable def fn32 := mkFn Tryz.f32
def q32 : Frm := ⟨28, [(0, .dat (.sl tB)), (1, .dat (.sl tB)), (5, .dat tI)], []⟩
def R32 : q32.V → Tr (Ex × St) := fun (((a : List (List Int)), (b : List (List Int)), (k : Int), _), _) =>
  .need (decide ((0 ≤ k ∧ k ≤ a.length ∧ a.length = b.length ∧ (a.length : Int) ≤ 9223372036854775807) ∧ a.all u8s = true ∧ b.all u8s = true)) (.ite (sameAt a b k.toNat) (.ret (.ex 0, ⟨28, [], []⟩)) (.ret (.rt, ⟨28, [(4, .e (.c (.kb false)))], []⟩)))
def lp32 : LP := [(0, sumP q32 R32)]
theorem lp32_ok : LpsOk 0 CE [] lp32 fn32.loops := by
  refine .all (by kernel_rfl) ?_
  simp only [lp32, List.forall_mem_cons, List.not_mem_nil, false_imp_iff, implies_true, and_true]
  refine .pat q32 R32 (fun v => (v.1.1.length - v.1.2.2.1).toNat) ?_
  rintro ⟨⟨(a : List (List Int)), (b : List (List Int)), (k : Int), ⟨⟩⟩, ⟨⟩⟩ ih
  refine Gives.run (t' := .ite (decide (k < (((List.length a) : Nat) : Int))) (.need (inR k (List.length a)) (.need true (.need (inR k (List.length b)) (.need true (.ite (!(decide ((txt (List.getD a (Int.toNat k) ([] : List Int))) = (txt (List.getD b (Int.toNat k) ([] : List Int)))))) (.ret (.rt, ⟨28, [(4, .e (.c (.kb false)))], []⟩)) (.need (decide (((-(9223372036854775808 : Int) : Int) ≤ (k + (1 : Int) : Int)) ∧ ((k + (1 : Int) : Int) ≤ (9223372036854775807 : Int)))) (.ret (.nx, ⟨28, [(0, rL tB a), (1, rL tB b), (5, rI (k + (1 : Int) : Int))], []⟩)))))))) (.ret (.ex 0, ⟨28, [], []⟩))) (by kernel_rfl) ?_
  refine .rnd fun ⟨⟨h1, h2, h3, h4⟩, h5, h6⟩ => ?_
  refine .lif (fun hk => ?_) (fun hk => ?_)
  · have e : (k + 1).toNat = k.toNat + 1 := by omega
    refine .lneed (inR_of h1 (by omega)) (.lneed rfl (.lneed (inR_of h1 (by omega)) (.lneed rfl ?_)))
    have ua := List.all_eq_true.1 h5 _ (List.getElem_mem (show k.toNat < a.length by omega))
    have ub := List.all_eq_true.1 h6 _ (List.getElem_mem (show k.toNat < b.length by omega))
    rw [show a[k.toNat]'(by omega) = a.getD k.toNat [] by simp [List.getD_eq_getElem?_getD, List.getElem?_eq_getElem (show k.toNat < a.length by omega)]] at ua
    rw [show b[k.toNat]'(by omega) = b.getD k.toNat [] by simp [List.getD_eq_getElem?_getD, List.getElem?_eq_getElem (show k.toNat < b.length by omega)]] at ub
    have eqT : decide (txt (a.getD k.toNat []) = txt (b.getD k.toNat [])) = decide (a.getD k.toNat [] = b.getD k.toNat []) := by
      rw [Bool.eq_iff_iff, decide_eq_true_iff, decide_eq_true_iff]; exact txt_inj2 ua ub
    rw [sameAt_step [] (a := a) (b := b) (by omega) (by omega)]
    refine .lite (fun hx => ?_) (fun hx => ?_)
    · rw [eqT, Bool.not_eq_true'] at hx
      exact .rff (by rw [hx]; rfl) (.refl _)
    · rw [eqT, Bool.not_eq_false'] at hx
      refine .rb (by rw [hx, Bool.true_and]) (.lnd (by omega) ?_)
      refine Gives.next (σ' := q32.st ((a, b, k + 1, ()), ())) (by kernel_rfl) ((ih ((a, b, k + 1, ()), ()) (by simp only; omega)).trans ?_)
      refine .nd ⟨⟨by omega, by omega, h3, h4⟩, h5, h6⟩ ?_
      rw [e]; exact .refl _
  · rw [sameAt_end (by omega) (by omega)]; exact .rtt rfl (.refl _)
theorem sameT_ok : CtrOk Tryz.prog 32 (ctr (two (aVal (.sl tB)) (aVal (.sl tB))) fun a => .need (a.1.all u8s && a.2.1.all u8s) (ans (rB (decide (a.1 = a.2.1))))) := by
  refine .mk CE_ok mixed (q := fn32) (.of Tryz.func32 (by kernel_rfl)) lp32_ok (by decide) ?_
  rintro ⟨(a : List (List Int)), (b : List (List Int)), ⟨⟩⟩ hb
  refine Gives.of_eq (t' := .ite ((((List.length a) : Nat) : Int) != (((List.length b) : Nat) : Int)) (.ret (rB false, ⟨0, [], []⟩)) (.need (decide ((((0 : Int) ≤ (0 : Int)) ∧ (((0 : Int) ≤ (((List.length a) : Nat) : Int)) ∧ (((List.length a) = (List.length b)) ∧ ((((List.length a) : Nat) : Int) ≤ (9223372036854775807 : Int))))) ∧ (((List.all a u8s) = true) ∧ ((List.all b u8s) = true)))) (.ite (sameAt a b 0) (.ret (rB true, ⟨0, [], []⟩)) (.ret (rB false, ⟨0, [], []⟩))))) (by kernel_rfl) ?_
  show Gives _ (.need (a.all u8s && b.all u8s) (.ret (rB (decide (a = b)), St.nil)))
  refine .rneed fun hu => ?_
  rw [Bool.and_eq_true] at hu
  refine .ite (fun h => ?_) (fun h => ?_)
  · rw [decide_eq_false (fun e => by subst e; simp at h)]; exact .refl _
  have h : a.length = b.length := by have := bne_eq_false_iff_eq.1 h; omega
  have hl : a.length ≤ 9223372036854775807 := hb.1.1
  refine .nd ⟨⟨by omega, by omega, h, by omega⟩, hu.1, hu.2⟩ (.ite (fun h' => ?_) (fun h' => ?_))
  · unfold sameAt at h'; rw [List.drop_zero, List.drop_zero] at h'; rw [h']; exact .refl _
  · unfold sameAt at h'; rw [List.drop_zero, List.drop_zero] at h'; rw [h']; exact .refl _
noncomputable def fn13 := mkFn Tryz.f13
def q13a : Frm := ⟨59, [(2, .ptr tProg), (3, .ptr tProg), (5, .dat tI)], []⟩
def R13a : q13a.V → Tr (Ex × St) := fun (((a : tProg.El), (b : tProg.El), (k : Int), _), _) =>
  .need (decide (0 ≤ k ∧ k ≤ a.1.length ∧ a.1.length = b.1.length ∧ (a.1.length : Int) ≤ 9223372036854775807)) (.ite (sameAt a.1 b.1 k.toNat) (.ret (.ex 0, ⟨59, [(2, .e (.c (.dp (split tProg a)))), (3, .e (.c (.dp (split tProg b))))], []⟩)) (.ret (.rt, ⟨59, [(4, .e (.c (.kb false)))], []⟩)))
def q13b : Frm := ⟨59, [(2, .ptr tProg), (3, .ptr tProg), (6, .dat tI)], []⟩
def R13b : q13b.V → Tr (Ex × St) := fun (((a : tProg.El), (b : tProg.El), (k : Int), _), _) =>
  .need (decide (0 ≤ k ∧ k ≤ a.2.length ∧ a.2.length = b.2.length ∧ (a.2.length : Int) ≤ 9223372036854775807)) (.ite (sameAt a.2 b.2 k.toNat) (.ret (.ex 2, ⟨59, [], []⟩)) (.ret (.rt, ⟨59, [(4, .e (.c (.kb false)))], []⟩)))
def lp13 : LP := [(0, sumP q13a R13a), (2, sumP q13b R13b)]
theorem lp13_ok : LpsOk 0 CE [] lp13 fn13.loops := by
  refine .all (by kernel_rfl) ?_
  simp only [lp13, List.forall_mem_cons, List.not_mem_nil, false_imp_iff, implies_true, and_true]
  constructor
  · refine .pat q13a R13a (fun v => (v.1.1.1.length - v.1.2.2.1).toNat) ?_
    rintro ⟨⟨⟨(aL : List (Int × Int)), (aN : List ByteArray)⟩, ⟨(bL : List (Int × Int)), (bN : List ByteArray)⟩, (k : Int), ⟨⟩⟩, ⟨⟩⟩ ih
    refine Gives.run (t' := .ite (decide (k < (((List.length aL) : Nat) : Int))) (.need (inR k (List.length aL)) (.need true (.need (inR k (List.length bL)) (.need true (.ite (!((((List.getD aL (Int.toNat k) ((0 : Int), (0 : Int)))).1 == ((List.getD bL (Int.toNat k) ((0 : Int), (0 : Int)))).1) && ((((List.getD aL (Int.toNat k) ((0 : Int), (0 : Int)))).2 == ((List.getD bL (Int.toNat k) ((0 : Int), (0 : Int)))).2) && true))) (.ret (.rt, ⟨59, [(4, .e (.c (.kb false)))], []⟩)) (.need (decide (((-(9223372036854775808 : Int) : Int) ≤ (k + (1 : Int) : Int)) ∧ ((k + (1 : Int) : Int) ≤ (9223372036854775807 : Int)))) (.ret (.nx, ⟨59, [(2, .e (.c (.dp [.sl tInst aL, .sl Ty.str aN]))), (3, .e (.c (.dp [.sl tInst bL, .sl Ty.str bN]))), (5, rI (k + (1 : Int) : Int))], []⟩)))))))) (.ret (.ex 0, ⟨59, [(2, .e (.c (.dp [.sl tInst aL, .sl Ty.str aN]))), (3, .e (.c (.dp [.sl tInst bL, .sl Ty.str bN])))], []⟩))) (by kernel_rfl) ?_
    refine .rnd fun ⟨h1, h2, h3, h4⟩ => ?_
    have h2 : k ≤ aL.length := h2
    have h3 : aL.length = bL.length := h3
    have h4 : (aL.length : Int) ≤ 9223372036854775807 := h4
    show Gives _ (.ite (sameAt aL bL k.toNat) _ _)
    refine .lif (fun hk => ?_) (fun hk => ?_)
    · have e : (k + 1).toNat = k.toNat + 1 := by omega
      refine .lneed (inR_of h1 (by omega)) (.lneed rfl (.lneed (inR_of h1 (by omega)) (.lneed rfl ?_)))
      rw [sameAt_step (0, 0) (a := aL) (b := bL) (by omega) (by omega)]
      refine .lite (fun hx => ?_) (fun hx => ?_)
      · rw [eqI2, Bool.not_eq_true'] at hx
        exact .rff (by rw [hx]; rfl) (.refl _)
      · rw [eqI2, Bool.not_eq_false'] at hx
        refine .rb (by rw [hx, Bool.true_and]) (.lnd (by omega) ?_)
        refine Gives.next (σ' := q13a.st (((aL, aN), (bL, bN), k + 1, ()), ())) (by kernel_rfl) ((ih (((aL, aN), (bL, bN), k + 1, ()), ()) (by simp only; omega)).trans ?_)
        refine .nd ⟨by omega, by show k + 1 ≤ aL.length; omega, h3, h4⟩ ?_
        rw [e]; exact .refl _
    · rw [sameAt_end (by omega) (by omega)]; exact .rtt rfl (.refl _)
  · refine .pat q13b R13b (fun v => (v.1.1.2.length - v.1.2.2.1).toNat) ?_
    rintro ⟨⟨⟨(aL : List (Int × Int)), (aN : List ByteArray)⟩, ⟨(bL : List (Int × Int)), (bN : List ByteArray)⟩, (k : Int), ⟨⟩⟩, ⟨⟩⟩ ih
    refine Gives.run (t' := .ite (decide (k < (((List.length aN) : Nat) : Int))) (.need (inR k (List.length aN)) (.need (inR k (List.length bN)) (.ite (!(decide ((List.getD aN (Int.toNat k) ByteArray.empty) = (List.getD bN (Int.toNat k) ByteArray.empty)))) (.ret (.rt, ⟨59, [(4, .e (.c (.kb false)))], []⟩)) (.need (decide (((-(9223372036854775808 : Int) : Int) ≤ (k + (1 : Int) : Int)) ∧ ((k + (1 : Int) : Int) ≤ (9223372036854775807 : Int)))) (.ret (.nx, ⟨59, [(2, .e (.c (.dp [.sl tInst aL, .sl Ty.str aN]))), (3, .e (.c (.dp [.sl tInst bL, .sl Ty.str bN]))), (6, rI (k + (1 : Int) : Int))], []⟩)))))) (.ret (.ex 2, ⟨59, [], []⟩))) (by kernel_rfl) ?_
    refine .rnd fun ⟨h1, h2, h3, h4⟩ => ?_
    have h2 : k ≤ aN.length := h2
    have h3 : aN.length = bN.length := h3
    have h4 : (aN.length : Int) ≤ 9223372036854775807 := h4
    show Gives _ (.ite (sameAt aN bN k.toNat) _ _)
    refine .lif (fun hk => ?_) (fun hk => ?_)
    · have e : (k + 1).toNat = k.toNat + 1 := by omega
      refine .lneed (inR_of h1 (by omega)) (.lneed (inR_of h1 (by omega)) ?_)
      rw [sameAt_step ByteArray.empty (a := aN) (b := bN) (by omega) (by omega)]
      refine .lite (fun hx => ?_) (fun hx => ?_)
      · rw [Bool.not_eq_true'] at hx
        exact .rff (by rw [hx]; rfl) (.refl _)
      · rw [Bool.not_eq_false'] at hx
        refine .rb (by rw [hx, Bool.true_and]) (.lnd (by omega) ?_)
        refine Gives.next (σ' := q13b.st (((aL, aN), (bL, bN), k + 1, ()), ())) (by kernel_rfl) ((ih (((aL, aN), (bL, bN), k + 1, ()), ()) (by simp only; omega)).trans ?_)
        refine .nd ⟨by omega, by show k + 1 ≤ aN.length; omega, h3, h4⟩ ?_
        rw [e]; exact .refl _
    · rw [sameAt_end (by omega) (by omega)]; exact .rtt rfl (.refl _)
theorem same10_ok : CtrOk Tryz.prog 13 (ctr (two (aAgg tProg) (aAgg tProg)) fun a => ans (rB (decide (a.1 = a.2.1)))) := by
  refine .mk CE_ok mixed (q := fn13) (.of Tryz.func13 (by kernel_rfl)) lp13_ok (by decide) ?_
  rintro ⟨⟨(aL : List (Int × Int)), (aN : List ByteArray)⟩, ⟨(bL : List (Int × Int)), (bN : List ByteArray)⟩, ⟨⟩⟩ hb
  refine Gives.of_eq (t' := .ite ((((List.length aL) : Nat) : Int) != (((List.length bL) : Nat) : Int)) (.ret (rB false, ⟨0, [], []⟩)) (.ite ((((List.length aN) : Nat) : Int) != (((List.length bN) : Nat) : Int)) (.ret (rB false, ⟨0, [], []⟩)) (.need (decide (((0 : Int) ≤ (0 : Int)) ∧ (((0 : Int) ≤ (((List.length aL) : Nat) : Int)) ∧ (((List.length aL) = (List.length bL)) ∧ ((((List.length aL) : Nat) : Int) ≤ (9223372036854775807 : Int)))))) (.ite (sameAt aL bL 0) (.need (decide (((0 : Int) ≤ (0 : Int)) ∧ (((0 : Int) ≤ (((List.length aN) : Nat) : Int)) ∧ (((List.length aN) = (List.length bN)) ∧ ((((List.length aN) : Nat) : Int) ≤ (9223372036854775807 : Int)))))) (.ite (sameAt aN bN 0) (.ret (rB true, ⟨0, [], []⟩)) (.ret (rB false, ⟨0, [], []⟩)))) (.ret (rB false, ⟨0, [], []⟩)))))) (by kernel_rfl) ?_
  show Gives _ (.ret (rB (decide (((aL, aN) : Prog) = (bL, bN))), St.nil))
  have hl : aL.length ≤ 9223372036854775807 := hb.1.1.1
  have hn : aN.length ≤ 9223372036854775807 := hb.1.2.1
  have hd : decide (((aL, aN) : Prog) = (bL, bN)) = (decide (aL = bL) && decide (aN = bN)) := by rw [Bool.eq_iff_iff]; simp
  rw [hd]
  refine .ite (fun h => ?_) (fun h => ?_)
  · rw [decide_eq_false (fun e => by subst e; simp at h)]; exact .refl _
  refine .ite (fun h' => ?_) (fun h' => ?_)
  · rw [decide_eq_false (p := aN = bN) (fun e => by subst e; simp at h'), Bool.and_false]; exact .refl _
  have h : aL.length = bL.length := by have := bne_eq_false_iff_eq.1 h; omega
  have h' : aN.length = bN.length := by have := bne_eq_false_iff_eq.1 h'; omega
  refine .nd ⟨by omega, by omega, h, by omega⟩ (.ite (fun g => ?_) (fun g => ?_))
  · unfold sameAt at g; rw [List.drop_zero, List.drop_zero] at g; rw [g]
    refine .nd ⟨by omega, by omega, h', by omega⟩ (.ite (fun g' => ?_) (fun g' => ?_))
    · unfold sameAt at g'; rw [List.drop_zero, List.drop_zero] at g'; rw [g']; exact .refl _
    · unfold sameAt at g'; rw [List.drop_zero, List.drop_zero] at g'; rw [g']; exact .refl _
  · unfold sameAt at g; rw [List.drop_zero, List.drop_zero] at g; rw [g]; exact .refl _
end Go.Proofs.YtdngaaploooceaaGreatDoor.Sy

/- Contracts: whether two classes, traces, inputs are the same. -/
set_option maxRecDepth 100000
namespace Go.Proofs.YtdngaaploooceaaGreatDoor.Sy
open Go.RowKit Kit Go.Proofs
theorem eqEn (x y : Ent) : (decide (x.1 = y.1) && ((x.2.1 == y.2.1) && ((x.2.2 == y.2.2) && true))) = decide (x = y) := by
  rw [Bool.eq_iff_iff]; simp [Prod.ext_iff]
theorem eqI (x y : Int) : (x == y) = decide (x = y) := by rw [Bool.eq_iff_iff]; simp
theorem eqEv (x y : Bool × Int) : ((x.1 == y.1) && ((x.2 == y.2) && true)) = decide (x = y) := by
  rw [Bool.eq_iff_iff]; simp [Prod.ext_iff]
noncomputable def fn14 := mkFn Tryz.f14
def q14a : Frm := ⟨80, [(2, .ptr tCls), (3, .ptr tCls), (5, .dat tI)], []⟩
def R14a : q14a.V → Tr (Ex × St) := fun (((a : tCls.El), (b : tCls.El), (k : Int), _), _) =>
  .need (decide (0 ≤ k ∧ k ≤ a.1.length ∧ a.1.length = b.1.length ∧ (a.1.length : Int) ≤ 9223372036854775807)) (.ite (sameAt a.1 b.1 k.toNat) (.ret (.ex 0, ⟨80, [(2, .e (.c (.dp (split tCls a)))), (3, .e (.c (.dp (split tCls b))))], []⟩)) (.ret (.rt, ⟨80, [(4, .e (.c (.kb false)))], []⟩)))
def q14b : Frm := ⟨80, [(2, .ptr tCls), (3, .ptr tCls), (6, .dat tI)], []⟩
def R14b : q14b.V → Tr (Ex × St) := fun (((a : tCls.El), (b : tCls.El), (k : Int), _), _) =>
  .need (decide (0 ≤ k ∧ k ≤ a.2.1.length ∧ a.2.1.length = b.2.1.length ∧ (a.2.1.length : Int) ≤ 9223372036854775807)) (.ite (sameAt a.2.1 b.2.1 k.toNat) (.ret (.ex 2, ⟨80, [], []⟩)) (.ret (.rt, ⟨80, [(4, .e (.c (.kb false)))], []⟩)))
def lp14 : LP := [(0, sumP q14a R14a), (2, sumP q14b R14b)]
theorem lp14_ok : LpsOk 0 CE [] lp14 fn14.loops := by
  refine .all (by kernel_rfl) ?_
  simp only [lp14, List.forall_mem_cons, List.not_mem_nil, false_imp_iff, implies_true, and_true]
  constructor
  · refine .pat q14a R14a (fun v => (v.1.1.1.length - v.1.2.2.1).toNat) ?_
    rintro ⟨⟨⟨(aT : List Ent), (aA : List Int), (a1 : Int), (a2 : Int), (a3 : Int)⟩, ⟨(bT : List Ent), (bA : List Int), (b1 : Int), (b2 : Int), (b3 : Int)⟩, (k : Int), ⟨⟩⟩, ⟨⟩⟩ ih
    refine Gives.run (t' := .ite (decide (k < (((List.length aT) : Nat) : Int))) (.need (inR k (List.length aT)) (.need true (.need (inR k (List.length bT)) (.need true (.ite (!((decide (((List.getD aT (Int.toNat k) (ByteArray.empty, (false, (0 : Int))))).1 = ((List.getD bT (Int.toNat k) (ByteArray.empty, (false, (0 : Int))))).1)) && (((((List.getD aT (Int.toNat k) (ByteArray.empty, (false, (0 : Int))))).2).1 == (((List.getD bT (Int.toNat k) (ByteArray.empty, (false, (0 : Int))))).2).1) && (((((List.getD aT (Int.toNat k) (ByteArray.empty, (false, (0 : Int))))).2).2 == (((List.getD bT (Int.toNat k) (ByteArray.empty, (false, (0 : Int))))).2).2) && true)))) (.ret (.rt, ⟨80, [(4, .e (.c (.kb false)))], []⟩)) (.need (decide (((-(9223372036854775808 : Int) : Int) ≤ (k + (1 : Int) : Int)) ∧ ((k + (1 : Int) : Int) ≤ (9223372036854775807 : Int)))) (.ret (.nx, ⟨80, [(2, .e (.c (.dp [.sl tEnt aT, .sl tI aA, .v (.int .i64 a1), .v (.int .i64 a2), .v (.int .i64 a3)]))), (3, .e (.c (.dp [.sl tEnt bT, .sl tI bA, .v (.int .i64 b1), .v (.int .i64 b2), .v (.int .i64 b3)]))), (5, rI (k + (1 : Int) : Int))], []⟩)))))))) (.ret (.ex 0, ⟨80, [(2, .e (.c (.dp [.sl tEnt aT, .sl tI aA, .v (.int .i64 a1), .v (.int .i64 a2), .v (.int .i64 a3)]))), (3, .e (.c (.dp [.sl tEnt bT, .sl tI bA, .v (.int .i64 b1), .v (.int .i64 b2), .v (.int .i64 b3)])))], []⟩))) (by kernel_rfl) ?_
    refine .rnd fun ⟨h1, h2, h3, h4⟩ => ?_
    have h2 : k ≤ aT.length := h2
    have h3 : aT.length = bT.length := h3
    have h4 : (aT.length : Int) ≤ 9223372036854775807 := h4
    show Gives _ (.ite (sameAt aT bT k.toNat) _ _)
    refine .lif (fun hk => ?_) (fun hk => ?_)
    · have e : (k + 1).toNat = k.toNat + 1 := by omega
      refine .lneed (inR_of h1 (by omega)) (.lneed rfl (.lneed (inR_of h1 (by omega)) (.lneed rfl ?_)))
      rw [sameAt_step (ByteArray.empty, false, 0) (a := aT) (b := bT) (by omega) (by omega)]
      refine .lite (fun hx => ?_) (fun hx => ?_)
      · rw [eqEn, Bool.not_eq_true'] at hx
        exact .rff (by rw [hx]; rfl) (.refl _)
      · rw [eqEn, Bool.not_eq_false'] at hx
        refine .rb (by rw [hx, Bool.true_and]) (.lnd (by omega) ?_)
        refine Gives.next (σ' := q14a.st (((aT, aA, a1, a2, a3), (bT, bA, b1, b2, b3), k + 1, ()), ())) (by kernel_rfl) ((ih (((aT, aA, a1, a2, a3), (bT, bA, b1, b2, b3), k + 1, ()), ()) (by simp only; omega)).trans ?_)
        refine .nd ⟨by omega, by show k + 1 ≤ aT.length; omega, h3, h4⟩ ?_
        rw [e]; exact .refl _
    · rw [sameAt_end (by omega) (by omega)]; exact .rtt rfl (.refl _)
  · refine .pat q14b R14b (fun v => (v.1.1.2.1.length - v.1.2.2.1).toNat) ?_
    rintro ⟨⟨⟨(aT : List Ent), (aA : List Int), (a1 : Int), (a2 : Int), (a3 : Int)⟩, ⟨(bT : List Ent), (bA : List Int), (b1 : Int), (b2 : Int), (b3 : Int)⟩, (k : Int), ⟨⟩⟩, ⟨⟩⟩ ih
    refine Gives.run (t' := .ite (decide (k < (((List.length aA) : Nat) : Int))) (.need (inR k (List.length aA)) (.need (inR k (List.length bA)) (.ite ((List.getD aA (Int.toNat k) (0 : Int)) != (List.getD bA (Int.toNat k) (0 : Int))) (.ret (.rt, ⟨80, [(4, .e (.c (.kb false)))], []⟩)) (.need (decide (((-(9223372036854775808 : Int) : Int) ≤ (k + (1 : Int) : Int)) ∧ ((k + (1 : Int) : Int) ≤ (9223372036854775807 : Int)))) (.ret (.nx, ⟨80, [(2, .e (.c (.dp [.sl tEnt aT, .sl tI aA, .v (.int .i64 a1), .v (.int .i64 a2), .v (.int .i64 a3)]))), (3, .e (.c (.dp [.sl tEnt bT, .sl tI bA, .v (.int .i64 b1), .v (.int .i64 b2), .v (.int .i64 b3)]))), (6, rI (k + (1 : Int) : Int))], []⟩)))))) (.ret (.ex 2, ⟨80, [], []⟩))) (by kernel_rfl) ?_
    refine .rnd fun ⟨h1, h2, h3, h4⟩ => ?_
    have h2 : k ≤ aA.length := h2
    have h3 : aA.length = bA.length := h3
    have h4 : (aA.length : Int) ≤ 9223372036854775807 := h4
    show Gives _ (.ite (sameAt aA bA k.toNat) _ _)
    refine .lif (fun hk => ?_) (fun hk => ?_)
    · have e : (k + 1).toNat = k.toNat + 1 := by omega
      refine .lneed (inR_of h1 (by omega)) (.lneed (inR_of h1 (by omega)) ?_)
      rw [sameAt_step 0 (a := aA) (b := bA) (by omega) (by omega)]
      refine .lite (fun hx => ?_) (fun hx => ?_)
      · have hx : aA.getD k.toNat 0 ≠ bA.getD k.toNat 0 := by simpa using hx
        exact .rff (by rw [decide_eq_false hx]; rfl) (.refl _)
      · have hx : aA.getD k.toNat 0 = bA.getD k.toNat 0 := by simpa using hx
        refine .rb (by rw [decide_eq_true hx, Bool.true_and]) (.lnd (by omega) ?_)
        refine Gives.next (σ' := q14b.st (((aT, aA, a1, a2, a3), (bT, bA, b1, b2, b3), k + 1, ()), ())) (by kernel_rfl) ((ih (((aT, aA, a1, a2, a3), (bT, bA, b1, b2, b3), k + 1, ()), ()) (by simp only; omega)).trans ?_)
        refine .nd ⟨by omega, by show k + 1 ≤ aA.length; omega, h3, h4⟩ ?_
        rw [e]; exact .refl _
    · rw [sameAt_end (by omega) (by omega)]; exact .rtt rfl (.refl _)
theorem sameC_ok : CtrOk Tryz.prog 14 (ctr (two (aAgg tCls) (aAgg tCls)) fun a => ans (rB (decide (a.1 = a.2.1)))) := by
  refine .mk CE_ok mixed (q := fn14) (.of Tryz.func14 (by kernel_rfl)) lp14_ok (by decide) ?_
  rintro ⟨⟨(aT : List Ent), (aA : List Int), (a1 : Int), (a2 : Int), (a3 : Int)⟩, ⟨(bT : List Ent), (bA : List Int), (b1 : Int), (b2 : Int), (b3 : Int)⟩, ⟨⟩⟩ hb
  refine Gives.of_eq (t' := .ite (a1 != b1) (.ret (rB false, ⟨0, [], []⟩)) (.ite (a2 != b2) (.ret (rB false, ⟨0, [], []⟩)) (.ite (a3 != b3) (.ret (rB false, ⟨0, [], []⟩)) (.ite ((((List.length aT) : Nat) : Int) != (((List.length bT) : Nat) : Int)) (.ret (rB false, ⟨0, [], []⟩)) (.ite ((((List.length aA) : Nat) : Int) != (((List.length bA) : Nat) : Int)) (.ret (rB false, ⟨0, [], []⟩)) (.need (decide (((0 : Int) ≤ (0 : Int)) ∧ (((0 : Int) ≤ (((List.length aT) : Nat) : Int)) ∧ (((List.length aT) = (List.length bT)) ∧ ((((List.length aT) : Nat) : Int) ≤ (9223372036854775807 : Int)))))) (.ite (sameAt aT bT 0) (.need (decide (((0 : Int) ≤ (0 : Int)) ∧ (((0 : Int) ≤ (((List.length aA) : Nat) : Int)) ∧ (((List.length aA) = (List.length bA)) ∧ ((((List.length aA) : Nat) : Int) ≤ (9223372036854775807 : Int)))))) (.ite (sameAt aA bA 0) (.ret (rB true, ⟨0, [], []⟩)) (.ret (rB false, ⟨0, [], []⟩)))) (.ret (rB false, ⟨0, [], []⟩))))))))) (by kernel_rfl) ?_
  show Gives _ (.ret (rB (decide (((aT, aA, a1, a2, a3) : Cls) = (bT, bA, b1, b2, b3))), St.nil))
  have hl : aT.length ≤ 9223372036854775807 := hb.1.1.1
  have hn : aA.length ≤ 9223372036854775807 := hb.1.2.1.1
  have hd : decide (((aT, aA, a1, a2, a3) : Cls) = (bT, bA, b1, b2, b3)) = (decide (a1 = b1) && (decide (a2 = b2) && (decide (a3 = b3) && (decide (aT = bT) && decide (aA = bA))))) := by
    rw [Bool.eq_iff_iff]; simp only [Prod.mk.injEq, Bool.and_eq_true, decide_eq_true_eq]; exact ⟨fun ⟨x1, x2, x3, x4, x5⟩ => ⟨x3, x4, x5, x1, x2⟩, fun ⟨x3, x4, x5, x1, x2⟩ => ⟨x1, x2, x3, x4, x5⟩⟩
  rw [hd]
  refine .ite (fun h => ?_) (fun h => ?_)
  · rw [decide_eq_false (p := a1 = b1) (by simpa using h)]; exact .refl _
  rw [decide_eq_true (p := a1 = b1) (by simpa using h)]
  refine .ite (fun h => ?_) (fun h => ?_)
  · rw [decide_eq_false (p := a2 = b2) (by simpa using h)]; exact .refl _
  rw [decide_eq_true (p := a2 = b2) (by simpa using h)]
  refine .ite (fun h => ?_) (fun h => ?_)
  · rw [decide_eq_false (p := a3 = b3) (by simpa using h)]; exact .refl _
  rw [decide_eq_true (p := a3 = b3) (by simpa using h)]
  refine .ite (fun h => ?_) (fun h => ?_)
  · rw [decide_eq_false (p := aT = bT) (fun e => by subst e; simp at h)]; exact .refl _
  refine .ite (fun h' => ?_) (fun h' => ?_)
  · rw [decide_eq_false (p := aA = bA) (fun e => by subst e; simp at h'), Bool.and_false]; exact .refl _
  have h : aT.length = bT.length := by have := bne_eq_false_iff_eq.1 h; omega
  have h' : aA.length = bA.length := by have := bne_eq_false_iff_eq.1 h'; omega
  refine .nd ⟨by omega, by omega, h, by omega⟩ (.ite (fun g => ?_) (fun g => ?_))
  · unfold sameAt at g; rw [List.drop_zero, List.drop_zero] at g; rw [g]
    refine .nd ⟨by omega, by omega, h', by omega⟩ (.ite (fun g' => ?_) (fun g' => ?_))
    · unfold sameAt at g'; rw [List.drop_zero, List.drop_zero] at g'; rw [g']; exact .refl _
    · unfold sameAt at g'; rw [List.drop_zero, List.drop_zero] at g'; rw [g']; exact .refl _
  · unfold sameAt at g; rw [List.drop_zero, List.drop_zero] at g; rw [g]; exact .refl _
noncomputable def fn16 := mkFn Tryz.f16
def q16 : Frm := ⟨45, [(2, .ptr tTr), (3, .ptr tTr), (5, .dat tI)], []⟩
def R16 : q16.V → Tr (Ex × St) := fun (((a : tTr.El), (b : tTr.El), (k : Int), _), _) =>
  .need (decide (0 ≤ k ∧ k ≤ a.1.length ∧ a.1.length = b.1.length ∧ (a.1.length : Int) ≤ 9223372036854775807)) (.ite (sameAt a.1 b.1 k.toNat) (.ret (.ex 0, ⟨45, [], []⟩)) (.ret (.rt, ⟨45, [(4, .e (.c (.kb false)))], []⟩)))
def lp16 : LP := [(0, sumP q16 R16)]
theorem lp16_ok : LpsOk 0 CE [] lp16 fn16.loops := by
  refine .all (by kernel_rfl) ?_
  simp only [lp16, List.forall_mem_cons, List.not_mem_nil, false_imp_iff, implies_true, and_true]
  refine .pat q16 R16 (fun v => (v.1.1.1.length - v.1.2.2.1).toNat) ?_
  rintro ⟨⟨⟨(aL : List (Bool × Int)), (a1 : Int), (a2 : Int)⟩, ⟨(bL : List (Bool × Int)), (b1 : Int), (b2 : Int)⟩, (k : Int), ⟨⟩⟩, ⟨⟩⟩ ih
  refine Gives.run (t' := .ite (decide (k < (((List.length aL) : Nat) : Int))) (.need (inR k (List.length aL)) (.need true (.need (inR k (List.length bL)) (.need true (.ite (!((((List.getD aL (Int.toNat k) (false, (0 : Int)))).1 == ((List.getD bL (Int.toNat k) (false, (0 : Int)))).1) && ((((List.getD aL (Int.toNat k) (false, (0 : Int)))).2 == ((List.getD bL (Int.toNat k) (false, (0 : Int)))).2) && true))) (.ret (.rt, ⟨45, [(4, .e (.c (.kb false)))], []⟩)) (.need (decide (((-(9223372036854775808 : Int) : Int) ≤ (k + (1 : Int) : Int)) ∧ ((k + (1 : Int) : Int) ≤ (9223372036854775807 : Int)))) (.ret (.nx, ⟨45, [(2, .e (.c (.dp [.sl tEv aL, .v (.int .i64 a1), .v (.int .u16 a2)]))), (3, .e (.c (.dp [.sl tEv bL, .v (.int .i64 b1), .v (.int .u16 b2)]))), (5, rI (k + (1 : Int) : Int))], []⟩)))))))) (.ret (.ex 0, ⟨45, [], []⟩))) (by kernel_rfl) ?_
  refine .rnd fun ⟨h1, h2, h3, h4⟩ => ?_
  have h2 : k ≤ aL.length := h2
  have h3 : aL.length = bL.length := h3
  have h4 : (aL.length : Int) ≤ 9223372036854775807 := h4
  show Gives _ (.ite (sameAt aL bL k.toNat) _ _)
  refine .lif (fun hk => ?_) (fun hk => ?_)
  · have e : (k + 1).toNat = k.toNat + 1 := by omega
    refine .lneed (inR_of h1 (by omega)) (.lneed rfl (.lneed (inR_of h1 (by omega)) (.lneed rfl ?_)))
    rw [sameAt_step (false, 0) (a := aL) (b := bL) (by omega) (by omega)]
    refine .lite (fun hx => ?_) (fun hx => ?_)
    · rw [eqEv, Bool.not_eq_true'] at hx
      exact .rff (by rw [hx]; rfl) (.refl _)
    · rw [eqEv, Bool.not_eq_false'] at hx
      refine .rb (by rw [hx, Bool.true_and]) (.lnd (by omega) ?_)
      refine Gives.next (σ' := q16.st (((aL, a1, a2), (bL, b1, b2), k + 1, ()), ())) (by kernel_rfl) ((ih (((aL, a1, a2), (bL, b1, b2), k + 1, ()), ()) (by simp only; omega)).trans ?_)
      refine .nd ⟨by omega, by show k + 1 ≤ aL.length; omega, h3, h4⟩ ?_
      rw [e]; exact .refl _
  · rw [sameAt_end (by omega) (by omega)]; exact .rtt rfl (.refl _)
theorem sameTr_ok : CtrOk Tryz.prog 16 (ctr (two (aAgg tTr) (aAgg tTr)) fun a => ans (rB (decide (a.1 = a.2.1)))) := by
  refine .mk CE_ok mixed (q := fn16) (.of Tryz.func16 (by kernel_rfl)) lp16_ok (by decide) ?_
  rintro ⟨⟨(aL : List (Bool × Int)), (a1 : Int), (a2 : Int)⟩, ⟨(bL : List (Bool × Int)), (b1 : Int), (b2 : Int)⟩, ⟨⟩⟩ hb
  refine Gives.of_eq (t' := .ite (a1 != b1) (.ret (rB false, ⟨0, [], []⟩)) (.ite (a2 != b2) (.ret (rB false, ⟨0, [], []⟩)) (.ite ((((List.length aL) : Nat) : Int) != (((List.length bL) : Nat) : Int)) (.ret (rB false, ⟨0, [], []⟩)) (.need (decide (((0 : Int) ≤ (0 : Int)) ∧ (((0 : Int) ≤ (((List.length aL) : Nat) : Int)) ∧ (((List.length aL) = (List.length bL)) ∧ ((((List.length aL) : Nat) : Int) ≤ (9223372036854775807 : Int)))))) (.ite (sameAt aL bL 0) (.ret (rB true, ⟨0, [], []⟩)) (.ret (rB false, ⟨0, [], []⟩))))))) (by kernel_rfl) ?_
  show Gives _ (.ret (rB (decide (((aL, a1, a2) : Trc) = (bL, b1, b2))), St.nil))
  have hl : aL.length ≤ 9223372036854775807 := hb.1.1.1
  have hd : decide (((aL, a1, a2) : Trc) = (bL, b1, b2)) = (decide (a1 = b1) && (decide (a2 = b2) && decide (aL = bL))) := by
    rw [Bool.eq_iff_iff]; simp only [Prod.mk.injEq, Bool.and_eq_true, decide_eq_true_eq]; exact ⟨fun ⟨x1, x2, x3⟩ => ⟨x2, x3, x1⟩, fun ⟨x2, x3, x1⟩ => ⟨x1, x2, x3⟩⟩
  rw [hd]
  refine .ite (fun h => ?_) (fun h => ?_)
  · rw [decide_eq_false (p := a1 = b1) (by simpa using h)]; exact .refl _
  rw [decide_eq_true (p := a1 = b1) (by simpa using h)]
  refine .ite (fun h => ?_) (fun h => ?_)
  · rw [decide_eq_false (p := a2 = b2) (by simpa using h)]; exact .refl _
  rw [decide_eq_true (p := a2 = b2) (by simpa using h)]
  refine .ite (fun h => ?_) (fun h => ?_)
  · rw [decide_eq_false (p := aL = bL) (fun e => by subst e; simp at h)]; exact .refl _
  have h : aL.length = bL.length := by have := bne_eq_false_iff_eq.1 h; omega
  refine .nd ⟨by omega, by omega, h, by omega⟩ (.ite (fun g => ?_) (fun g => ?_))
  · unfold sameAt at g; rw [List.drop_zero, List.drop_zero] at g; rw [g]; exact .refl _
  · unfold sameAt at g; rw [List.drop_zero, List.drop_zero] at g; rw [g]; exact .refl _
noncomputable def fn15 := mkFn Tryz.f15
def sameBCtr : Ctr := ctr (two (aVal (.sl .bool)) (aVal (.sl .bool))) fun a => ans (rB (decide (a.1 = a.2.1)))
def sameTCtr : Ctr := ctr (two (aVal (.sl tB)) (aVal (.sl tB))) fun a => .need (a.1.all u8s && a.2.1.all u8s) (ans (rB (decide (a.1 = a.2.1))))
def C15 : Cx := ⟨T, FL, [(33, sameBCtr), (32, sameTCtr)], [], []⟩
theorem C15_ok : CxOk Tryz.prog C15 := ⟨T_ok, FL_ok, .cons sameB_ok (.cons sameT_ok (.nil _)), .nil _⟩
def inpU (i : Inp) : Bool := i.1.all u8s && i.2.1.all u8s
theorem sameIn_ok : CtrOk Tryz.prog 15 (ctr (two (aAgg tInp) (aAgg tInp)) fun a => .need (inpU a.1 && inpU a.2.1) (ans (rB (decide (a.1 = a.2.1))))) := by
  refine .mk C15_ok mixed (q := fn15) (.of Tryz.func15 (by kernel_rfl)) (N := 0) (nr := []) .none (by decide) ?_
  rintro ⟨⟨(aF : List (List Int)), (aA : List (List Int)), (aB : List Bool)⟩, ⟨(bF : List (List Int)), (bA : List (List Int)), (bB : List Bool)⟩, ⟨⟩⟩ hb
  refine Gives.of_eq (t' := .need ((List.all aF u8s) && (List.all bF u8s)) (.ite (decide (aF = bF)) (.need ((List.all aA u8s) && (List.all bA u8s)) (.ite (decide (aA = bA)) (.ret (rB (decide (aB = bB)), ⟨0, [], []⟩)) (.ret (rB false, ⟨0, [], []⟩)))) (.ret (rB false, ⟨0, [], []⟩)))) (by kernel_rfl) ?_
  show Gives _ (.need (inpU (aF, aA, aB) && inpU (bF, bA, bB)) (.ret (rB (decide (((aF, aA, aB) : Inp) = (bF, bA, bB))), St.nil)))
  have hd : decide (((aF, aA, aB) : Inp) = (bF, bA, bB)) = (decide (aF = bF) && (decide (aA = bA) && decide (aB = bB))) := by
    rw [Bool.eq_iff_iff]; simp only [Prod.mk.injEq, Bool.and_eq_true, decide_eq_true_eq]
  rw [hd]
  refine .rneed fun hu => ?_
  simp only [inpU, Bool.and_eq_true] at hu
  obtain ⟨⟨u1, u2⟩, u3, u4⟩ := hu
  refine .need (by rw [u1, u3]; rfl) (.ite (fun h => ?_) (fun h => ?_))
  · rw [h]
    refine .need (by rw [u2, u4]; rfl) (.ite (fun h => ?_) (fun h => ?_))
    · rw [h]; exact .refl _
    · rw [h]; exact .refl _
  · rw [h]; exact .refl _
end Go.Proofs.YtdngaaploooceaaGreatDoor.Sy

/- Contracts: the document's table of instructions, and what texts have at most. -/
set_option maxRecDepth 100000
namespace Go.Proofs.YtdngaaploooceaaGreatDoor.Sy
open Go.RowKit Kit Go.Proofs
noncomputable def fn66 := mkFn Tryz.f66
def C66 : Cx := ⟨T, FL, [], [], []⟩
theorem C66_ok : CxOk Tryz.prog C66 := ⟨T_ok, FL_ok, .nil _, .nil _⟩
abbrev tRw : Ty := .pair .str (.pair tI (.pair tI tI))
abbrev Rw : Type := ByteArray × Int × Int × Int
/-- takes, gives, the greatest number -/
def rwL : List Rw := ("", 0, 0, 0) :: [("push", 0, 1, 65535), ("pop", 1, 0, 0), ("dup", 1, 2, 0), ("swap", 2, 2, 0), ("add", 2, 1, 0), ("sub", 2, 1, 0), ("mul", 2, 1, 0), ("div", 2, 1, 0), ("mod", 2, 1, 0), ("and", 2, 1, 0), ("or", 2, 1, 0), ("xor", 2, 1, 0), ("shl", 2, 1, 0), ("shr", 2, 1, 0), ("eq", 2, 1, 0), ("lt", 2, 1, 0), ("not", 1, 1, 0), ("get", 0, 1, 7), ("set", 1, 0, 7), ("load", 1, 1, 0), ("store", 2, 0, 0), ("jump", 0, 0, 95), ("zero", 1, 0, 95), ("out", 1, 0, 0), ("assert", 1, 0, 0), ("exit", 1, 0, 0), ("open", 0, 1, 7), ("close", 1, 1, 0), ("read", 3, 1, 0), ("write", 3, 1, 0), ("seek", 2, 1, 0), ("size", 1, 1, 0), ("unlink", 0, 1, 7), ("rename", 0, 1, 63), ("mkdir", 0, 1, 7), ("rmdir", 0, 1, 7), ("list", 0, 1, 7), ("trunc", 2, 1, 0), ("twin", 1, 1, 0), ("argc", 0, 1, 0), ("arg", 2, 1, 0)] |>.map fun x => (bs x.1, x.2)
def rwCtr : Ctr := ctr Args.nil fun _ => ans (rL tRw rwL)
theorem table_ok : CtrOk Tryz.prog 66 rwCtr := by
  refine .mk C66_ok mixed (q := fn66) (.of Tryz.func66 (by kernel_rfl)) (N := 0) (nr := []) .none (by decide) ?_
  rintro ⟨⟩ -
  exact Gives.of_eq (t' := .ret (rL tRw rwL, ⟨0, [], []⟩)) (by kernel_rfl) (.refl _)
noncomputable def fn48 := mkFn Tryz.f48
def C48 : Cx := ⟨T, FL, [(66, rwCtr)], [], []⟩
theorem C48_ok : CxOk Tryz.prog C48 := ⟨T_ok, FL_ok, .cons table_ok (.nil _), .nil _⟩
def rowF (n : Int) : Rw := if 1 ≤ n ∧ n ≤ 41 then rwL.getD n.toNat (ByteArray.empty, 0, 0, 0) else (ByteArray.empty, -1, -1, -1)
def rowCtr : Ctr := ctr (one aI) fun a => .ret (.tup [eS (rowF a.1).1, eI (rowF a.1).2.1, eI (rowF a.1).2.2.1, eI (rowF a.1).2.2.2, eB (decide (1 ≤ a.1 ∧ a.1 ≤ 41))], [])
theorem row_ok : CtrOk Tryz.prog 48 rowCtr := by
  refine .mk C48_ok mixed (q := fn48) (.of Tryz.func48 (by kernel_rfl)) (N := 0) (nr := []) .none (by decide) ?_
  rintro ⟨(n : Int), ⟨⟩⟩ -
  refine Gives.of_eq (t' := .ite (decide (n < (1 : Int))) (.ret (.tup [.c (.d (.v (.string (ByteArray.mk (List.toArray ([] : List UInt8)))))), .c (.d (.v (.int .i64 (-(1 : Int) : Int)))), .c (.d (.v (.int .i64 (-(1 : Int) : Int)))), .c (.d (.v (.int .i64 (-(1 : Int) : Int)))), .c (.d (.v (.bool false)))], ⟨0, [], []⟩)) (.ite (decide ((((List.length rwL) : Nat) : Int) ≤ n)) (.ret (.tup [.c (.d (.v (.string (ByteArray.mk (List.toArray ([] : List UInt8)))))), .c (.d (.v (.int .i64 (-(1 : Int) : Int)))), .c (.d (.v (.int .i64 (-(1 : Int) : Int)))), .c (.d (.v (.int .i64 (-(1 : Int) : Int)))), .c (.d (.v (.bool false)))], ⟨0, [], []⟩)) (.need (inR n (List.length rwL)) (.need true (.ret (.tup [.c (.d (.v (.string ((List.getD rwL (Int.toNat n) (ByteArray.empty, ((0 : Int), ((0 : Int), (0 : Int)))))).1))), .c (.d (.v (.int .i64 (((List.getD rwL (Int.toNat n) (ByteArray.empty, ((0 : Int), ((0 : Int), (0 : Int)))))).2).1))), .c (.d (.v (.int .i64 ((((List.getD rwL (Int.toNat n) (ByteArray.empty, ((0 : Int), ((0 : Int), (0 : Int)))))).2).2).1))), .c (.d (.v (.int .i64 ((((List.getD rwL (Int.toNat n) (ByteArray.empty, ((0 : Int), ((0 : Int), (0 : Int)))))).2).2).2))), .c (.d (.v (.bool true)))], ⟨0, [], []⟩)))))) (by kernel_rfl) ?_
  show Gives _ (.ret (SV.tup [eS (rowF n).1, eI (rowF n).2.1, eI (rowF n).2.2.1, eI (rowF n).2.2.2, eB (decide (1 ≤ n ∧ n ≤ 41))], (⟨0, [], []⟩ : St)))
  have hl : rwL.length = 42 := by decide +kernel
  unfold rowF
  refine .if_ (fun h => ?_) (fun h => ?_)
  · rw [if_neg (by omega), decide_eq_false (by omega)]; exact .refl _
  refine .if_ (fun h' => ?_) (fun h' => ?_)
  · rw [if_neg (by omega), decide_eq_false (by omega)]; exact .refl _
  · rw [if_pos (by omega), decide_eq_true (by omega)]
    exact .need (inR_of (by omega) (by omega)) (.need rfl (.refl _))
/-- both tables tell the same -/
theorem iMay_row (op x : Int) : iMay (op, x) = (decide (1 ≤ op ∧ op ≤ 41) && (decide (0 ≤ x) && decide (x ≤ (rowF op).2.2.2))) := by
  have hall : (List.range 42).all (fun k => k == 0 || (match iTab (k : Int) with | some v => v.2.2 == (rwL.getD k (ByteArray.empty, 0, 0, 0)).2.2.2 + 1 | none => false)) = true := by decide +kernel
  by_cases h : 1 ≤ op ∧ op ≤ 41
  · rw [decide_eq_true h, Bool.true_and]
    have := List.all_eq_true.1 hall op.toNat (List.mem_range.2 (by omega))
    rw [show (op.toNat : Int) = op by omega] at this
    have h0 : (op.toNat == 0) = false := by simp; omega
    rw [h0, Bool.false_or] at this
    unfold iMay rowF
    rw [if_pos h]
    cases hk : iTab op with
    | none => rw [hk] at this; cases this
    | some v =>
      rw [hk] at this
      have this : v.2.2 = (rwL.getD op.toNat (ByteArray.empty, 0, 0, 0)).2.2.2 + 1 := by simpa using this
      dsimp only
      rw [this]
      congr 1
      rw [Bool.eq_iff_iff, decide_eq_true_iff, decide_eq_true_iff]; omega
  · rw [decide_eq_false h, Bool.false_and]
    unfold iMay
    cases hk : iTab op with
    | none => rfl
    | some v => have := iTab_range hk; exact absurd ⟨this.1, this.2.1⟩ h
noncomputable def fn25 := mkFn Tryz.f25
def C25 : Cx := ⟨T, FL, [(48, rowCtr)], [], []⟩
theorem C25_ok : CxOk Tryz.prog C25 := ⟨T_ok, FL_ok, .cons row_ok (.nil _), .nil _⟩
theorem rmay_ok : CtrOk Tryz.prog 25 (ctr (one (aAgg tInst)) fun a => ans (rB (iMay a.1))) := by
  refine .mk C25_ok mixed (q := fn25) (.of Tryz.func25 (by kernel_rfl)) (N := 0) (nr := []) .none (by decide) ?_
  rintro ⟨⟨(op : Int), (x : Int)⟩, ⟨⟩⟩ -
  refine Gives.of_eq (t' := .ite (decide (((1 : Int) ≤ op) ∧ (op ≤ (41 : Int)))) (.ite (decide ((0 : Int) ≤ x)) (.ret (rB (decide (x ≤ ((((rowF op)).2).2).2)), ⟨0, [], []⟩)) (.ret (rB false, ⟨0, [], []⟩))) (.ret (rB false, ⟨0, [], []⟩))) (by kernel_rfl) ?_
  show Gives _ (.ret (rB (iMay (op, x)), (⟨0, [], []⟩ : St)))
  rw [iMay_row]
  refine .ite (fun h => ?_) (fun h => ?_)
  · rw [h]
    refine .ite (fun h => ?_) (fun h => ?_)
    · rw [h]; exact .refl _
    · rw [h]; exact .refl _
  · rw [h]; exact .refl _
noncomputable def fn28 := mkFn Tryz.f28
def C28 : Cx := ⟨T, FL, [], [], [FA]⟩
theorem C28_ok : CxOk Tryz.prog C28 := ⟨T_ok, FL_ok, .nil _, .nil _⟩
def nr28 : List NR := [⟨3, tI, 3⟩]
def q28 : Frm := ⟨32, [(1, .ptr tCls), (3, .row 3), (4, .dat tI)], [(3, .row tI 3)]⟩
def R28 : q28.V → Tr (Ex × St) := fun (((c : Cls), _, (k : Int), _), (acc : List Int), _) =>
  .need (decide (0 ≤ k ∧ k ≤ c.1.length ∧ c.1.length ≤ 1000000 ∧ acc.length ≤ k)) (.ret (.ex 0, ⟨32, [(1, .e (.c (.dp (split tCls c)))), (3, .e (.c (.row 3)))], [(3, .row tI 3 (acc ++ capsF (c.1.drop k.toNat)))]⟩))
def lp28 : LP := [(0, sumP q28 R28)]
theorem lp28_ok : LpsOk 0 C28 nr28 lp28 fn28.loops := by
  refine .all (by kernel_rfl) ?_
  simp only [lp28, List.forall_mem_cons, List.not_mem_nil, false_imp_iff, implies_true, and_true]
  refine .pat q28 R28 (fun v => (v.1.1.1.length - v.1.2.2.1).toNat) ?_
  rintro ⟨⟨⟨(t : List Ent), (ar : List Int), (c1 : Int), (c2 : Int), (c3 : Int)⟩, ⟨⟩, (k : Int), ⟨⟩⟩, ⟨(acc : List Int), ⟨⟩⟩⟩ ih
  refine Gives.run (t' := .ite (decide (k < (((List.length t) : Nat) : Int))) (.need (inR k (List.length t)) (.ite (!(((List.getD t (Int.toNat k) (ByteArray.empty, (false, (0 : Int))))).2).1) (.need (inR k (List.length t)) (.need true (.need (decide ((((List.length acc) + (List.length [(((List.getD t (Int.toNat k) (ByteArray.empty, (false, (0 : Int))))).2).2]) : Nat) * (Lay.bytes L3) : Nat) ≤ 140737488355328)) (.need (decide (((-(9223372036854775808 : Int) : Int) ≤ (k + (1 : Int) : Int)) ∧ ((k + (1 : Int) : Int) ≤ (9223372036854775807 : Int)))) (.ret (.nx, ⟨32, [(1, .e (.c (.dp [.sl tEnt t, .sl tI ar, .v (.int .i64 c1), .v (.int .i64 c2), .v (.int .i64 c3)]))), (3, .e (.c (.row 27))), (4, rI (k + (1 : Int) : Int))], [(27, .row tI 3 (acc ++ [(((List.getD t (Int.toNat k) (ByteArray.empty, (false, (0 : Int))))).2).2]))]⟩)))))) (.need (decide (((-(9223372036854775808 : Int) : Int) ≤ (k + (1 : Int) : Int)) ∧ ((k + (1 : Int) : Int) ≤ (9223372036854775807 : Int)))) (.ret (.nx, ⟨32, [(1, .e (.c (.dp [.sl tEnt t, .sl tI ar, .v (.int .i64 c1), .v (.int .i64 c2), .v (.int .i64 c3)]))), (3, .e (.c (.row 3))), (4, rI (k + (1 : Int) : Int))], [(3, .row tI 3 acc)]⟩))))) (.ret (.ex 0, ⟨32, [(1, .e (.c (.dp [.sl tEnt t, .sl tI ar, .v (.int .i64 c1), .v (.int .i64 c2), .v (.int .i64 c3)]))), (3, .e (.c (.row 3)))], [(3, .row tI 3 acc)]⟩))) (by kernel_rfl) ?_
  refine .rnd fun ⟨h1, h2, h3, h4⟩ => ?_
  have h2 : k ≤ t.length := h2
  have h3 : t.length ≤ 1000000 := h3
  refine .lif (fun hk => ?_) (fun hk => ?_)
  · have e : (k + 1).toNat = k.toNat + 1 := by omega
    show Gives _ (.ret (Ex.ex 0, (⟨32, [(1, .e (.c (.dp (split tCls (t, ar, c1, c2, c3))))), (3, .e (.c (.row 3)))], [(3, .row tI 3 (acc ++ capsF (t.drop k.toNat)))]⟩ : St)))
    rw [drop_at t k.toNat (ByteArray.empty, false, 0) (by omega)]
    refine .lneed (inR_of h1 (by omega)) ?_
    generalize t.getD k.toNat (ByteArray.empty, false, 0) = x
    refine .lite (fun hx => ?_) (fun hx => ?_)
    · have hx : x.2.1 = false := by simpa using hx
      refine .lneed (inR_of h1 (by omega)) (.lneed rfl (.lnd (by show (acc.length + 1) * 8 ≤ _; omega) (.lnd (by omega) ?_)))
      refine Gives.next (σ' := q28.st (((t, ar, c1, c2, c3), (), k + 1, ()), (acc ++ [x.2.2], ()))) (by kernel_rfl) ((ih (((t, ar, c1, c2, c3), (), k + 1, ()), (acc ++ [x.2.2], ())) (by simp only; omega)).trans ?_)
      refine .nd ⟨by omega, by show k + 1 ≤ t.length; omega, h3, by rw [List.length_append]; simp; omega⟩ ?_
      rw [capsF, hx, e, List.append_assoc]; exact .refl _
    · have hx : x.2.1 = true := by simpa using hx
      refine .lnd (by omega) ?_
      refine Gives.next (σ' := q28.st (((t, ar, c1, c2, c3), (), k + 1, ()), (acc, ()))) (by kernel_rfl) ((ih (((t, ar, c1, c2, c3), (), k + 1, ()), (acc, ())) (by simp only; omega)).trans ?_)
      refine .nd ⟨by omega, by show k + 1 ≤ t.length; omega, h3, by omega⟩ ?_
      rw [capsF, hx, e]; exact .refl _
  · show Gives _ (.ret (Ex.ex 0, (⟨32, [(1, .e (.c (.dp (split tCls (t, ar, c1, c2, c3))))), (3, .e (.c (.row 3)))], [(3, .row tI 3 (acc ++ capsF (t.drop k.toNat)))]⟩ : St)))
    rw [List.drop_eq_nil_of_le (by omega)]
    simp only [capsF, List.append_nil]
    exact .refl _
theorem rcaps_ok : CtrOk Tryz.prog 28 capsCtr := by
  refine .mk C28_ok mixed (q := fn28) (.of Tryz.func28 (by kernel_rfl)) lp28_ok (by decide) ?_
  rintro ⟨⟨(t : List Ent), (ar : List Int), (c1 : Int), (c2 : Int), (c3 : Int)⟩, ⟨⟩⟩ -
  refine Gives.of_eq (t' := .need (decide (((0 : Int) ≤ (0 : Int)) ∧ (((0 : Int) ≤ (((List.length t) : Nat) : Int)) ∧ (((List.length t) ≤ 1000000) ∧ ((((List.length ([] : List Int)) : Nat) : Int) ≤ (0 : Int)))))) (.need true (.need (decide ((((List.length (([] : List Int) ++ (capsF (List.drop 0 t)))) + (List.length ar) : Nat) * (Lay.bytes L3) : Nat) ≤ 140737488355328)) (.ret (rL tI ((([] : List Int) ++ (capsF (List.drop 0 t))) ++ ar), ⟨0, [], []⟩))))) (by kernel_rfl) ?_
  show Gives _ (.need _ (.ret (rL tI (capsF t ++ ar), (⟨0, [], []⟩ : St))))
  refine .rnd fun ⟨h1, h2⟩ => ?_
  have h1 : t.length ≤ 1000000 := h1
  have h2 : ar.length ≤ 1000000 := h2
  have hl := capsF_len t
  rw [List.drop_zero, List.nil_append]
  exact .nd ⟨by omega, by omega, h1, by simp⟩ (.need rfl (.nd (by show ((capsF t).length + ar.length) * 8 ≤ _; omega) (.refl _)))
noncomputable def fn27 := mkFn Tryz.f27
def C27 : Cx := ⟨T, FL, [(28, capsCtr)], [], []⟩
theorem C27_ok : CxOk Tryz.prog C27 := ⟨T_ok, FL_ok, .cons rcaps_ok (.nil _), .nil _⟩
def nfCtr : Ctr := ctr (one (aAgg tCls)) fun a => .need (decide (a.1.1.length ≤ 1000000 ∧ a.1.2.1.length ≤ 1000000)) (ans (rI (capsF a.1.1).length))
theorem nfiles_ok : CtrOk Tryz.prog 27 nfCtr := by
  refine .mk C27_ok mixed (q := fn27) (.of Tryz.func27 (by kernel_rfl)) (N := 0) (nr := []) .none (by decide) ?_
  rintro ⟨⟨(t : List Ent), (ar : List Int), (c1 : Int), (c2 : Int), (c3 : Int)⟩, ⟨⟩⟩ -
  refine Gives.of_eq (t' := .need true (.need (decide (((List.length t) ≤ 1000000) ∧ ((List.length ar) ≤ 1000000))) (.need (decide (((-(9223372036854775808 : Int) : Int) ≤ ((((List.length (capsC (t, (ar, (c1, (c2, c3)))))) : Nat) : Int) - (((List.length ar) : Nat) : Int) : Int)) ∧ (((((List.length (capsC (t, (ar, (c1, (c2, c3)))))) : Nat) : Int) - (((List.length ar) : Nat) : Int) : Int) ≤ (9223372036854775807 : Int)))) (.ret (rI ((((List.length (capsC (t, (ar, (c1, (c2, c3)))))) : Nat) : Int) - (((List.length ar) : Nat) : Int) : Int), ⟨0, [], []⟩))))) (by kernel_rfl) ?_
  show Gives _ (.need _ (.ret (rI (capsF t).length, (⟨0, [], []⟩ : St))))
  refine .rnd fun ⟨h1, h2⟩ => ?_
  have h1 : t.length ≤ 1000000 := h1
  have h2 : ar.length ≤ 1000000 := h2
  have hl := capsF_len t
  have hc : (capsC (t, ar, c1, c2, c3)).length = (capsF t).length + ar.length := by simp [capsC]
  rw [hc]
  refine .need rfl (.nd ⟨h1, h2⟩ (.nd (by omega) ?_))
  rw [show (((capsF t).length + ar.length : Nat) : Int) - (ar.length : Int) = ((capsF t).length : Int) by omega]
  exact .refl _
end Go.Proofs.YtdngaaploooceaaGreatDoor.Sy

/- Contracts: the document's bytes of a program. -/
set_option maxRecDepth 100000
namespace Go.Proofs.YtdngaaploooceaaGreatDoor.Sy
open Go.RowKit Kit Go.Proofs
noncomputable def fn9 := mkFn Tryz.f9
def rmayCtr : Ctr := ctr (one (aAgg tInst)) fun a => ans (rB (iMay a.1))
def C9 : Cx := ⟨T, FL, [(25, rmayCtr)], [], [36, FA]⟩
theorem C9_ok : CxOk Tryz.prog C9 := ⟨T_ok, FL_ok, .cons rmay_ok (.nil _), .nil _⟩
def nr9 : List NR := [⟨5, tU, 5⟩]
def q9a : Frm := ⟨107, [(1, .ptr tProg), (4, .dat tI)], []⟩
def bigN (s : ByteArray) : Bool := decide (255 < s.size)
def R9a : q9a.V → Tr (Ex × St) := fun (((p : Prog), (k : Int), _), _) =>
  .need (decide (0 ≤ k ∧ k ≤ p.2.length ∧ p.2.length ≤ 1000000)) (.ite ((p.2.drop k.toNat).any bigN) (.ret (.rt, ⟨107, [(2, .e (.c .nil)), (3, rI 10)], []⟩)) (.ret (.ex 0, ⟨107, [(1, .e (.c (.dp (split tProg p))))], []⟩)))
def q9b : Frm := ⟨107, [(1, .ptr tProg), (5, .row 5), (6, .dat tI)], [(5, .row tU 5)]⟩
def R9b : q9b.V → Tr (Ex × St) := fun (((p : Prog), _, (k : Int), _), (acc : List Int), _) =>
  .need (decide (0 ≤ k ∧ k ≤ p.2.length ∧ p.2.length ≤ 8 ∧ acc.length ≤ 1000 * (k + 1) ∧ p.2.all (fun s => decide (s.size ≤ 255)) = true)) (.ret (.ex 2, ⟨107, [(1, .e (.c (.dp (split tProg p)))), (5, .e (.c (.row 5)))], [(5, .row tU 5 (acc ++ (p.2.drop k.toNat).flatMap nameB))]⟩))
def q9c : Frm := ⟨107, [(1, .ptr tProg), (5, .row 5), (7, .dat tI)], [(5, .row tU 5)]⟩
def R9c : q9c.V → Tr (Ex × St) := fun (((p : Prog), _, (k : Int), _), (acc : List Int), _) =>
  .need (decide (0 ≤ k ∧ k ≤ p.1.length ∧ p.1.length ≤ 96 ∧ acc.length ≤ 100000 + 3 * k)) (.ite ((p.1.drop k.toNat).all iMay) (.ret (.ex 4, ⟨107, [(5, .e (.c (.row 5)))], [(5, .row tU 5 (acc ++ (p.1.drop k.toNat).flatMap instB))]⟩)) (.ret (.rt, ⟨107, [(2, .e (.c .nil)), (3, rI 5)], []⟩)))
def lp9 : LP := [(0, sumP q9a R9a), (2, sumP q9b R9b), (4, sumP q9c R9c)]
set_option maxHeartbeats 4000000 in
theorem lp9_ok : LpsOk 0 C9 nr9 lp9 fn9.loops := by
  refine .all (by kernel_rfl) ?_
  simp only [lp9, List.forall_mem_cons, List.not_mem_nil, false_imp_iff, implies_true, and_true]
  refine ⟨?_, ?_, ?_⟩
  · refine .pat q9a R9a (fun v => (v.1.1.2.length - v.1.2.1).toNat) ?_
    rintro ⟨⟨⟨(pL : List (Int × Int)), (pN : List ByteArray)⟩, (k : Int), ⟨⟩⟩, ⟨⟩⟩ ih
    refine Gives.run (t' := .ite (decide (k < (((List.length pN) : Nat) : Int))) (.need (inR k (List.length pN)) (.ite (decide ((255 : Int) < (((ByteArray.size (List.getD pN (Int.toNat k) ByteArray.empty)) : Nat) : Int))) (.ret (.rt, ⟨107, [(2, .e (.c (.nil))), (3, rI (10 : Int))], []⟩)) (.need (decide (((-(9223372036854775808 : Int) : Int) ≤ (k + (1 : Int) : Int)) ∧ ((k + (1 : Int) : Int) ≤ (9223372036854775807 : Int)))) (.ret (.nx, ⟨107, [(1, .e (.c (.dp [.sl tInst pL, .sl Ty.str pN]))), (4, rI (k + (1 : Int) : Int))], []⟩))))) (.ret (.ex 0, ⟨107, [(1, .e (.c (.dp [.sl tInst pL, .sl Ty.str pN])))], []⟩))) (by kernel_rfl) ?_
    refine .rnd fun ⟨h1, h2, h3⟩ => ?_
    have h2 : k ≤ pN.length := h2
    have h3 : pN.length ≤ 1000000 := h3
    show Gives _ (.ite ((pN.drop k.toNat).any bigN) _ _)
    refine .lif (fun hk => ?_) (fun hk => ?_)
    · have e : (k + 1).toNat = k.toNat + 1 := by omega
      rw [drop_at pN k.toNat ByteArray.empty (by omega)]
      refine .lneed (inR_of h1 (by omega)) ?_
      generalize pN.getD k.toNat ByteArray.empty = x
      refine .lif (fun hx => ?_) (fun hx => ?_)
      · exact .rtt (any_t (by unfold bigN; exact decide_eq_true (by omega))) (.refl _)
      · refine .rb (any_f (by unfold bigN; exact decide_eq_false (by omega))) (.lnd (by omega) ?_)
        refine Gives.next (σ' := q9a.st (((pL, pN), k + 1, ()), ())) (by kernel_rfl) ((ih (((pL, pN), k + 1, ()), ()) (by simp only; omega)).trans ?_)
        refine .nd ⟨by omega, by show k + 1 ≤ pN.length; omega, h3⟩ ?_
        rw [e]; exact .refl _
    · rw [List.drop_eq_nil_of_le (by omega)]; exact .rff rfl (.refl _)
  · refine .pat q9b R9b (fun v => (v.1.1.2.length - v.1.2.2.1).toNat) ?_
    rintro ⟨⟨⟨(pL : List (Int × Int)), (pN : List ByteArray)⟩, ⟨⟩, (k : Int), ⟨⟩⟩, ⟨(acc : List Int), ⟨⟩⟩⟩ ih
    refine Gives.run (t' := .ite (decide (k < (((List.length pN) : Nat) : Int))) (.need (inR k (List.length pN)) (.need true (.need (decide ((((List.length acc) + (List.length [(IntKind.wrap IntKind.u8 (((ByteArray.size (List.getD pN (Int.toNat k) ByteArray.empty)) : Nat) : Int))]) : Nat) * (Lay.bytes L5) : Nat) ≤ 140737488355328)) (.need (inR k (List.length pN)) (.need true (.need (decide ((((List.length (acc ++ [(IntKind.wrap IntKind.u8 (((ByteArray.size (List.getD pN (Int.toNat k) ByteArray.empty)) : Nat) : Int))])) + (List.length (strB (List.getD pN (Int.toNat k) ByteArray.empty))) : Nat) * (Lay.bytes L5) : Nat) ≤ 140737488355328)) (.need (decide (((-(9223372036854775808 : Int) : Int) ≤ (k + (1 : Int) : Int)) ∧ ((k + (1 : Int) : Int) ≤ (9223372036854775807 : Int)))) (.ret (.nx, ⟨107, [(1, .e (.c (.dp [.sl tInst pL, .sl Ty.str pN]))), (5, .e (.c (.row 59))), (6, rI (k + (1 : Int) : Int))], [(59, .row tU 5 ((acc ++ [(IntKind.wrap IntKind.u8 (((ByteArray.size (List.getD pN (Int.toNat k) ByteArray.empty)) : Nat) : Int))]) ++ (strB (List.getD pN (Int.toNat k) ByteArray.empty))))]⟩))))))))) (.ret (.ex 2, ⟨107, [(1, .e (.c (.dp [.sl tInst pL, .sl Ty.str pN]))), (5, .e (.c (.row 5)))], [(5, .row tU 5 acc)]⟩))) (by kernel_rfl) ?_
    refine .rnd fun ⟨h1, h2, h3, h4, h5⟩ => ?_
    have h2 : k ≤ pN.length := h2
    have h3 : pN.length ≤ 8 := h3
    show Gives _ (.ret (Ex.ex 2, (⟨107, [(1, .e (.c (.dp (split tProg (pL, pN))))), (5, .e (.c (.row 5)))], [(5, .row tU 5 (acc ++ (pN.drop k.toNat).flatMap nameB))]⟩ : St)))
    refine .lif (fun hk => ?_) (fun hk => ?_)
    · have e : (k + 1).toNat = k.toNat + 1 := by omega
      have hx := of_decide_eq_true (List.all_eq_true.1 h5 _ (List.getElem_mem (show k.toNat < pN.length by omega)))
      rw [show pN[k.toNat]'(by omega) = pN.getD k.toNat ByteArray.empty by simp [List.getD_eq_getElem?_getD, List.getElem?_eq_getElem (show k.toNat < pN.length by omega)]] at hx
      rw [drop_at pN k.toNat ByteArray.empty (by omega)]
      refine .lneed (inR_of h1 (by omega)) ?_
      generalize pN.getD k.toNat ByteArray.empty = x at hx ⊢
      have hl := strB_length x
      refine .lneed rfl (.lnd (by show (acc.length + 1) * 1 ≤ _; omega) (.lneed (inR_of h1 (by omega)) (.lneed rfl (.lnd (by show ((acc ++ _).length + (strB x).length) * 1 ≤ _; rw [List.length_append, List.length_singleton]; omega) (.lnd (by omega) ?_)))))
      refine Gives.next (σ' := q9b.st (((pL, pN), (), k + 1, ()), ((acc ++ [w8 x.size]) ++ strB x, ()))) (by kernel_rfl) ((ih (((pL, pN), (), k + 1, ()), ((acc ++ [w8 x.size]) ++ strB x, ())) (by simp only; omega)).trans ?_)
      refine .nd ⟨by omega, by show k + 1 ≤ pN.length; omega, h3, by simp only [List.length_append, List.length_singleton]; omega, h5⟩ ?_
      simp only [e, List.flatMap_cons, nameB, List.append_assoc, List.cons_append, List.nil_append]
      exact .refl _
    · rw [List.drop_eq_nil_of_le (by omega), List.flatMap_nil, List.append_nil]
      exact .refl _
  · refine .pat q9c R9c (fun v => (v.1.1.1.length - v.1.2.2.1).toNat) ?_
    rintro ⟨⟨⟨(pL : List (Int × Int)), (pN : List ByteArray)⟩, ⟨⟩, (k : Int), ⟨⟩⟩, ⟨(acc : List Int), ⟨⟩⟩⟩ ih
    refine Gives.run (t' := .ite (decide (k < (((List.length pL) : Nat) : Int))) (.need (inR k (List.length pL)) (.need true (.ite (!(iMay (List.getD pL (Int.toNat k) ((0 : Int), (0 : Int))))) (.ret (.rt, ⟨107, [(2, .e (.c (.nil))), (3, rI (5 : Int))], []⟩)) (.need (inR k (List.length pL)) (.need (inR k (List.length pL)) (.need true (.need (inR k (List.length pL)) (.need true (.need (decide ((((List.length acc) + (List.length [(IntKind.wrap IntKind.u8 ((List.getD pL (Int.toNat k) ((0 : Int), (0 : Int)))).1), (IntKind.wrap IntKind.u8 (Int.fdiv ((List.getD pL (Int.toNat k) ((0 : Int), (0 : Int)))).2 ((2 : Int) ^ (Min.min 8 (IntKind.bits IntKind.i64)) : Int))), (IntKind.wrap IntKind.u8 ((List.getD pL (Int.toNat k) ((0 : Int), (0 : Int)))).2)]) : Nat) * (Lay.bytes L5) : Nat) ≤ 140737488355328)) (.need (decide (((-(9223372036854775808 : Int) : Int) ≤ (k + (1 : Int) : Int)) ∧ ((k + (1 : Int) : Int) ≤ (9223372036854775807 : Int)))) (.ret (.nx, ⟨107, [(1, .e (.c (.dp [.sl tInst pL, .sl Ty.str pN]))), (5, .e (.c (.row 105))), (7, rI (k + (1 : Int) : Int))], [(105, .row tU 5 (acc ++ [(IntKind.wrap IntKind.u8 ((List.getD pL (Int.toNat k) ((0 : Int), (0 : Int)))).1), (IntKind.wrap IntKind.u8 (Int.fdiv ((List.getD pL (Int.toNat k) ((0 : Int), (0 : Int)))).2 ((2 : Int) ^ (Min.min 8 (IntKind.bits IntKind.i64)) : Int))), (IntKind.wrap IntKind.u8 ((List.getD pL (Int.toNat k) ((0 : Int), (0 : Int)))).2)]))]⟩)))))))))))) (.ret (.ex 4, ⟨107, [(5, .e (.c (.row 5)))], [(5, .row tU 5 acc)]⟩))) (by kernel_rfl) ?_
    refine .rnd fun ⟨h1, h2, h3, h4⟩ => ?_
    have h2 : k ≤ pL.length := h2
    have h3 : pL.length ≤ 96 := h3
    show Gives _ (.ite ((pL.drop k.toNat).all iMay) (.ret (Ex.ex 4, (⟨107, [(5, .e (.c (.row 5)))], [(5, .row tU 5 (acc ++ (pL.drop k.toNat).flatMap instB))]⟩ : St))) _)
    refine .lif (fun hk => ?_) (fun hk => ?_)
    · have e : (k + 1).toNat = k.toNat + 1 := by omega
      rw [drop_at pL k.toNat (0, 0) (by omega)]
      refine .lneed (inR_of h1 (by omega)) ?_
      generalize pL.getD k.toNat (0, 0) = x
      refine .lneed rfl (.lite (fun hx => ?_) (fun hx => ?_))
      · exact .rff (all_f (by simpa using hx)) (.refl _)
      · refine .rb (all_t (by simpa using hx)) (.lneed (inR_of h1 (by omega)) (.lneed (inR_of h1 (by omega)) (.lneed rfl (.lneed (inR_of h1 (by omega)) (.lneed rfl (.lnd (by show (acc.length + 3) * 1 ≤ _; omega) (.lnd (by omega) ?_)))))))
        refine Gives.next (σ' := q9c.st (((pL, pN), (), k + 1, ()), (acc ++ instB x, ()))) (by kernel_rfl) ((ih (((pL, pN), (), k + 1, ()), (acc ++ instB x, ())) (by simp only; omega)).trans ?_)
        refine .nd ⟨by omega, by show k + 1 ≤ pL.length; omega, h3, by rw [List.length_append]; simp [instB]; omega⟩ ?_
        show Gives _ (.ite ((pL.drop (k.toNat + 1)).all iMay) (.ret (Ex.ex 4, (⟨107, [(5, .e (.c (.row 5)))], [(5, .row tU 5 (acc ++ (x :: pL.drop (k.toNat + 1)).flatMap instB))]⟩ : St))) _)
        rw [e, List.flatMap_cons, List.append_assoc]
        exact .refl _
    · rw [List.drop_eq_nil_of_le (by omega), List.flatMap_nil, List.append_nil]
      exact .rtt rfl (.refl _)
set_option maxHeartbeats 2000000 in
theorem rbytes_ok : CtrOk Tryz.prog 9 (ctr (one (aAgg tProg)) fun a => .need (decide (a.1.2.length ≤ 1000000)) (.ite (pMay a.1 != 0) (.ret (.tup [.c .nil, eI (pMay a.1)], [])) (.ret (.tup [eL tU (pBytes a.1), eI 0], [])))) := by
  refine .mk C9_ok mixed (q := fn9) (.of Tryz.func9 (by kernel_rfl)) lp9_ok (by decide) ?_
  rintro ⟨⟨(L : List (Int × Int)), (N : List ByteArray)⟩, ⟨⟩⟩ -
  refine Gives.of_eq (t' := .ite (decide ((96 : Int) < (((List.length L) : Nat) : Int))) (.ret (.tup [.c (.nil), .c (.d (.v (.int .i64 (3 : Int))))], ⟨0, [], []⟩)) (.ite (decide ((8 : Int) < (((List.length N) : Nat) : Int))) (.ret (.tup [.c (.nil), .c (.d (.v (.int .i64 (3 : Int))))], ⟨0, [], []⟩)) (.need (decide (((0 : Int) ≤ (0 : Int)) ∧ (((0 : Int) ≤ (((List.length N) : Nat) : Int)) ∧ ((List.length N) ≤ 1000000)))) (.ite (List.any (List.drop 0 N) bigN) (.ret (.tup [.c (.nil), .c (.d (.v (.int .i64 (10 : Int))))], ⟨0, [], []⟩)) (.need (decide (((0 : Int) ≤ (0 : Int)) ∧ (((0 : Int) ≤ (((List.length N) : Nat) : Int)) ∧ (((List.length N) ≤ 8) ∧ (((((List.length [(88 : Int), (82 : Int), (IntKind.wrap IntKind.u8 (((List.length N) : Nat) : Int))]) : Nat) : Int) ≤ ((1000 : Int) * ((0 : Int) + (1 : Int) : Int) : Int)) ∧ ((List.all N (fun s => (decide ((ByteArray.size s) ≤ 255)))) = true)))))) (.need true (.need (decide ((((List.length ([(88 : Int), (82 : Int), (IntKind.wrap IntKind.u8 (((List.length N) : Nat) : Int))] ++ (List.flatMap nameB (List.drop 0 N)))) + (List.length [(IntKind.wrap IntKind.u8 (((List.length L) : Nat) : Int))]) : Nat) * (Lay.bytes L5) : Nat) ≤ 140737488355328)) (.need (decide (((0 : Int) ≤ (0 : Int)) ∧ (((0 : Int) ≤ (((List.length L) : Nat) : Int)) ∧ (((List.length L) ≤ 96) ∧ ((((List.length (([(88 : Int), (82 : Int), (IntKind.wrap IntKind.u8 (((List.length N) : Nat) : Int))] ++ (List.flatMap nameB (List.drop 0 N))) ++ [(IntKind.wrap IntKind.u8 (((List.length L) : Nat) : Int))])) : Nat) : Int) ≤ ((100000 : Int) + ((3 : Int) * (0 : Int) : Int) : Int)))))) (.ite (List.all (List.drop 0 L) iMay) (.ret (.tup [.c (.d (.sl tU ((([(88 : Int), (82 : Int), (IntKind.wrap IntKind.u8 (((List.length N) : Nat) : Int))] ++ (List.flatMap nameB (List.drop 0 N))) ++ [(IntKind.wrap IntKind.u8 (((List.length L) : Nat) : Int))]) ++ (List.flatMap instB (List.drop 0 L))))), .c (.d (.v (.int .i64 (0 : Int))))], ⟨0, [], []⟩)) (.ret (.tup [.c (.nil), .c (.d (.v (.int .i64 (5 : Int))))], ⟨0, [], []⟩))))))))))) (by kernel_rfl) ?_
  show Gives _ (.need (decide (N.length ≤ 1000000)) (.ite (pMay2 L N != 0) (.ret (SV.tup [.c .nil, eI (pMay2 L N)], (⟨0, [], []⟩ : St))) (.ret (SV.tup [eL tU (pBytes (L, N)), eI 0], (⟨0, [], []⟩ : St)))))
  refine .rnd fun hN => ?_
  have hNe : N.any bigN = N.any (fun s => decide (255 < s.size)) := rfl
  unfold pMay2
  refine .if_ (fun h => ?_) (fun h => ?_)
  · rw [if_pos (.inl (by omega))]; exact .rtt rfl (.refl _)
  refine .if_ (fun h' => ?_) (fun h' => ?_)
  · rw [if_pos (.inr (by omega))]; exact .rtt rfl (.refl _)
  rw [if_neg (by omega), List.drop_zero, List.drop_zero]
  refine .nd ⟨by omega, by omega, hN⟩ (.ite (fun h3 => ?_) (fun h3 => ?_))
  · rw [if_pos (by rw [← hNe]; exact h3)]; exact .rtt rfl (.refl _)
  rw [if_neg (by rw [← hNe, h3]; exact Bool.false_ne_true)]
  have h3' : N.all (fun s => decide (s.size ≤ 255)) = true := List.all_eq_true.2 fun s hs => by
    have := List.any_eq_false.1 h3 s hs
    unfold bigN at this
    simpa using this
  have hf : (N.flatMap nameB).length ≤ 256 * N.length := flat_len nameB 256 N fun s hs => by
    have := of_decide_eq_true (List.all_eq_true.1 h3' s hs)
    simp only [nameB, List.length_cons, strB_length]; omega
  have e1 : ([88, 82, w8 N.length] ++ N.flatMap nameB).length ≤ 3 + 256 * N.length := by rw [List.length_append]; simp only [List.length_cons, List.length_nil]; omega
  refine .nd ⟨by omega, by omega, by omega, by simp, h3'⟩ (.need rfl (.nd (by show (([88, 82, w8 N.length] ++ N.flatMap nameB).length + 1) * 1 ≤ _; omega) (.nd ⟨by omega, by omega, by omega, ?_⟩ (.ite (fun h4 => ?_) (fun h4 => ?_)))))
  · rw [List.length_append]
    show (((([88, 82, w8 N.length] ++ N.flatMap nameB).length + 1 : Nat)) : Int) ≤ _
    omega
  · have h4' : L.any (fun i => !iMay i) = false := by
      rw [← Bool.not_eq_true', ← List.all_eq_not_any_not]; exact h4
    rw [if_neg (by rw [h4']; exact Bool.false_ne_true)]
    exact .rff rfl (.refl _)
  · have h4' : L.any (fun i => !iMay i) = true := by
      rw [← Bool.not_eq_false', ← List.all_eq_not_any_not]; exact h4
    rw [if_pos h4']
    exact .rtt rfl (.refl _)
end Go.Proofs.YtdngaaploooceaaGreatDoor.Sy

/- Plain laws: a name by its parts is a name by its stroke. -/
set_option maxRecDepth 100000
namespace Go.Proofs.YtdngaaploooceaaGreatDoor.Sy
open Go.RowKit Kit Go.Proofs
def okC (c : Int) : Bool := c == 47 || letter c
def stepP (acc : List ByteArray) (c : Int) : List ByteArray :=
  if c == 47 then acc ++ [ByteArray.empty] else acc.set (acc.length - 1) (acc.getD (acc.length - 1) ByteArray.empty ++ txt [c])
def badP (s : ByteArray) : Bool := decide (s = ByteArray.empty) || decide (s = bs ".") || decide (s = bs "..")
def partsP (s : ByteArray) : List ByteArray := (strB s).foldl stepP [ByteArray.empty]
def nameR (s : ByteArray) : Bool :=
  decide (1 ≤ s.size) && (decide (s.size ≤ 8) && ((strB s).all okC && (!(partsP s).any badP && decide ((partsP s).length ≤ 2))))
theorem txt_app (a b : List Int) : txt (a ++ b) = txt a ++ txt b := by
  apply ByteArray.ext
  apply Array.ext'
  rw [ByteArray.data_append, Array.toList_append]
  show List.map _ (a ++ b) = List.map _ a ++ List.map _ b
  rw [List.map_append]
theorem letter_47 {c : Int} (h : letter c = true) : c ≠ 47 := fun e => by
  subst e
  exact absurd h (by decide)
theorem stepP_snoc (pre : List ByteArray) (x : ByteArray) {c : Int} (h : c ≠ 47) : stepP (pre ++ [x]) c = pre ++ [x ++ txt [c]] := by
  unfold stepP
  rw [if_neg (by simpa using h)]
  have e : (pre ++ [x]).length - 1 = pre.length := by simp
  rw [e, List.getD_eq_getElem?_getD, List.getElem?_append_right (Nat.le_refl _), Nat.sub_self, List.set_append_right _ _ (Nat.le_refl _), Nat.sub_self]
  rfl
theorem fold_word : ∀ (l : List Int) (pre : List ByteArray) (x : ByteArray), (∀ c ∈ l, c ≠ 47) → l.foldl stepP (pre ++ [x]) = pre ++ [x ++ txt l]
  | [], pre, x, _ => by
    show pre ++ [x] = pre ++ [x ++ txt []]
    rw [show txt [] = ByteArray.empty from rfl, ByteArray.append_empty]
  | c :: l, pre, x, h => by
    rw [List.foldl_cons, stepP_snoc pre x (h c (List.mem_cons_self ..)), fold_word l pre _ fun d hd => h d (List.mem_cons_of_mem _ hd), ByteArray.append_assoc, ← txt_app]
    rfl
theorem stepP_len (acc : List ByteArray) (c : Int) : (stepP acc c).length = if c = 47 then acc.length + 1 else acc.length := by
  unfold stepP
  by_cases h : c = 47
  · rw [if_pos (by simpa using h), if_pos h, List.length_append]; rfl
  · rw [if_neg (by simpa using h), if_neg h, List.length_set]
theorem fold_len : ∀ (l : List Int) (acc : List ByteArray), acc.length ≤ (l.foldl stepP acc).length ∧ (47 ∈ l → acc.length + 1 ≤ (l.foldl stepP acc).length)
  | [], acc => ⟨Nat.le_refl _, fun h => by cases h⟩
  | c :: l, acc => by
    obtain ⟨i1, i2⟩ := fold_len l (stepP acc c)
    rw [List.foldl_cons]
    have hl := stepP_len acc c
    refine ⟨by split at hl <;> omega, fun h => ?_⟩
    rcases List.mem_cons.1 h with h | h
    · rw [if_pos h.symm] at hl; omega
    · have := i2 h; split at hl <;> omega
theorem okC_letters {l : List Int} (h : ∀ c ∈ l, c ≠ 47) : l.all okC = l.all letter := by
  induction l with
  | nil => rfl
  | cons c r ih =>
    rw [List.all_cons, List.all_cons, ih fun d hd => h d (List.mem_cons_of_mem _ hd)]
    have : (c == 47) = false := by simpa using h c (List.mem_cons_self ..)
    unfold okC
    rw [this, Bool.false_or]
theorem badP_part (s : ByteArray) : partF s = ((strB s).all letter && !badP s) := by
  unfold partF badP bs
  rw [show "".toByteArray = ByteArray.empty from rfl]
  cases (strB s).all letter <;> cases decide (s = ByteArray.empty) <;> cases decide (s = ".".toByteArray) <;> cases decide (s = "..".toByteArray) <;> rfl
theorem strB_txt {l : List Int} (h : u8s l = true) : strB (txt l) = l := by
  unfold strB txt strOfNums
  rw [List.toList_toArray, List.map_map]
  conv => rhs; rw [← List.map_id l]
  refine List.map_congr_left fun x hx => ?_
  have := u8_iff.1 (List.all_eq_true.1 h x hx)
  show ((UInt8.ofNat x.toNat).toNat : Int) = x
  rw [UInt8.toNat_ofNat_of_lt' (by show x.toNat < 256; omega)]; omega
theorem stroke_some {s : ByteArray} {k : Nat} (h : stroke s = k) : (strB s)[k]? = some 47 ∧ ∀ j, j < k → (strB s)[j]? ≠ some 47 := by
  obtain ⟨h1, h2⟩ := Lib.indexByte_some (l := s.data.toList) (c := (47 : Int).toNat.toUInt8) h
  unfold strB
  refine ⟨by rw [List.getElem?_map, h1]; rfl, fun j hj he => ?_⟩
  rw [List.getElem?_map] at he
  obtain ⟨c, hc, e⟩ := Option.map_eq_some_iff.1 he
  refine h2 j hj ?_
  rw [hc]
  congr 1
  have : c.toNat = 47 := by omega
  exact UInt8.toNat_inj.1 this
theorem stroke_none {s : ByteArray} (h : stroke s < 0) : ∀ c ∈ strB s, c ≠ 47 := by
  have hz : Lib.indexByte s.data.toList (47 : Int).toNat.toUInt8 = -1 := by
    have := Lib.indexByte_ge s.data.toList (47 : Int).toNat.toUInt8
    have h' : Lib.indexByte s.data.toList (47 : Int).toNat.toUInt8 < 0 := h
    omega
  have hno := Lib.indexByte_none hz
  rintro c hc rfl
  obtain ⟨j, hj, e⟩ := List.getElem_of_mem hc
  unfold strB at e hj
  rw [List.getElem_map] at e
  rw [List.length_map] at hj
  refine hno j ?_
  rw [List.getElem?_eq_getElem hj]
  congr 1
  have : (s.data.toList[j]).toNat = 47 := by omega
  exact UInt8.toNat_inj.1 this
theorem extract_txt (s : ByteArray) (i j : Nat) : s.extract i j = txt (((strB s).take j).drop i) := by
  apply ByteArray.ext
  apply Array.ext'
  rw [ByteArray.data_extract, Array.toList_extract]
  show _ = List.map _ _
  unfold strB
  rw [← List.map_take, ← List.map_drop, List.map_map]
  have : ((fun n : Int => UInt8.ofNat n.toNat) ∘ fun c : UInt8 => (c.toNat : Int)) = id := by
    funext c; simp
  rw [this, List.map_id, List.extract_eq_take_drop]
  apply List.ext_getElem?
  intro n
  simp only [List.getElem?_take, List.getElem?_drop]
  by_cases hh : n < j - i
  · rw [if_pos hh, if_pos (by omega)]
  · rw [if_neg hh, if_neg (by omega)]
/-- a name by its parts is one by its stroke -/
theorem nameR_eq (s : ByteArray) : nameR s = nameF s := by
  have hs := strB_length s
  by_cases h8 : ¬ s.size ≤ 8
  · unfold nameR nameF
    rw [decide_eq_false h8]; simp
  have h8 : s.size ≤ 8 := by omega
  by_cases hk : 0 ≤ stroke s
  · obtain ⟨k, hk⟩ : ∃ k : Nat, stroke s = k := ⟨(stroke s).toNat, by omega⟩
    obtain ⟨g1, g2⟩ := stroke_some hk
    have hkl : k < (strB s).length := (List.getElem?_eq_some_iff.1 g1).1
    have hc : cut2 s = (txt ((strB s).take k), txt ((strB s).drop (k + 1)), true) := by
      unfold cut2
      rw [hk, if_pos (by omega), Int.toNat_natCast, extract_txt, extract_txt, List.drop_zero, List.take_of_length_le (l := strB s) (i := s.size) (by omega)]
    have hu := u8s_strB s
    have hsp : strB s = (strB s).take k ++ 47 :: (strB s).drop (k + 1) := by
      have e47 : (strB s)[k]'hkl = 47 := by
        rw [List.getElem?_eq_getElem hkl] at g1
        exact Option.some.inj g1
      conv => lhs; rw [← List.take_append_drop k (strB s), List.drop_eq_getElem_cons hkl, e47]
    have hua := u8s_take hu k
    have hub := u8s_drop hu (k + 1)
    have ha : ∀ c ∈ (strB s).take k, c ≠ 47 := fun c hc e => by
      subst e
      obtain ⟨j, hj, e⟩ := List.getElem_of_mem hc
      rw [List.length_take] at hj
      rw [List.getElem_take] at e
      exact g2 j (by omega) (by rw [List.getElem?_eq_getElem (by omega), e])
    have h1 : 1 ≤ s.size := by omega
    generalize (strB s).take k = a at *
    generalize (strB s).drop (k + 1) = b at *
    have hp : partsP s = b.foldl stepP ([txt a] ++ [ByteArray.empty]) := by
      unfold partsP
      rw [hsp, List.foldl_append]
      have := fold_word a [] ByteArray.empty ha
      rw [List.nil_append] at this
      rw [this, List.foldl_cons, ByteArray.empty_append]
      rfl
    have hf : nameF s = (partF (txt a) && partF (txt b)) := by
      unfold nameF
      rw [hc, decide_eq_true h8]; rfl
    have hr : nameR s = (a.all okC && (b.all okC && (!(partsP s).any badP && decide ((partsP s).length ≤ 2)))) := by
      unfold nameR
      rw [decide_eq_true h1, decide_eq_true h8, Bool.true_and, Bool.true_and]
      conv => lhs; rw [hsp]
      rw [List.all_append, List.all_cons, show okC 47 = true from rfl, Bool.true_and, Bool.and_assoc]
    rw [hf, hr, badP_part, badP_part, strB_txt hua, strB_txt hub, okC_letters ha]
    cases hal : a.all letter with
    | false => rfl
    | true =>
      by_cases hb : 47 ∈ b
      · have hbl : b.all letter = false := by
          cases hbl : b.all letter with
          | false => rfl
          | true => exact absurd rfl (letter_47 (List.all_eq_true.1 hbl _ hb))
        have := (fold_len b ([txt a] ++ [ByteArray.empty])).2 hb
        rw [← hp] at this
        rw [hbl, decide_eq_false (show ¬ (partsP s).length ≤ 2 by simp only [List.length_append, List.length_singleton] at this; omega)]
        simp
      · have hb' : ∀ c ∈ b, c ≠ 47 := fun c hc e => hb (e ▸ hc)
        rw [okC_letters hb', hp, fold_word b _ _ hb', ByteArray.empty_append]
        cases hbl : b.all letter with
        | false => simp
        | true => simp [List.any_cons]
  · have hn := stroke_none (s := s) (by omega)
    have hc : cut2 s = (s, ByteArray.empty, false) := by unfold cut2; rw [if_neg hk]
    have hp : partsP s = [s] := by
      unfold partsP
      have := fold_word (strB s) [] ByteArray.empty hn
      rw [List.nil_append] at this
      rw [this, ByteArray.empty_append, txt_strB]; rfl
    unfold nameR nameF
    rw [hc, hp, decide_eq_true h8, okC_letters hn]
    dsimp only
    rw [badP_part]
    by_cases h1 : 1 ≤ s.size
    · rw [decide_eq_true h1]
      cases (strB s).all letter <;> simp
    · have : s = ByteArray.empty := ByteArray.size_eq_zero_iff.1 (by omega)
      rw [decide_eq_false h1]
      have hb : badP s = true := by unfold badP; rw [decide_eq_true this]; rfl
      rw [hb]; simp
end Go.Proofs.YtdngaaploooceaaGreatDoor.Sy

/- Contracts: the document's names. -/
set_option maxRecDepth 100000
namespace Go.Proofs.YtdngaaploooceaaGreatDoor.Sy
open Go.RowKit Kit Go.Proofs
noncomputable def fn49 := mkFn Tryz.f49
def C49 : Cx := ⟨T, FL, [], [], [15, FA]⟩
theorem C49_ok : CxOk Tryz.prog C49 := ⟨T_ok, FL_ok, .nil _, .nil _⟩
def nr49 : List NR := [⟨3, .str, 9⟩]
def q49a : Frm := ⟨91, [(0, .dat .str), (3, .row 3), (4, .dat tI)], [(3, .row .str 9)]⟩
def R49a : q49a.V → Tr (Ex × St) := fun (((s : ByteArray), _, (k : Int), _), (acc : List ByteArray), _) =>
  .need (decide (0 ≤ k ∧ k ≤ s.size ∧ s.size ≤ 8 ∧ 0 < acc.length ∧ acc.length ≤ k + 1 ∧ acc.all (fun x => decide (x.size ≤ k)) = true)) (.ite (((strB s).drop k.toNat).all okC) (.ret (.ex 0, ⟨91, [(3, .e (.c (.row 3)))], [(3, .row .str 9 (((strB s).drop k.toNat).foldl stepP acc))]⟩)) (.ret (.rt, ⟨91, [(2, .e (.c (.kb false)))], []⟩)))
def q49b : Frm := ⟨91, [(3, .row 3), (6, .dat tI)], [(3, .row .str 9)]⟩
def R49b : q49b.V → Tr (Ex × St) := fun ((_, (k : Int), _), (acc : List ByteArray), _) =>
  .need (decide (0 ≤ k ∧ k ≤ acc.length ∧ acc.length ≤ 1000000)) (.ite ((acc.drop k.toNat).any badP) (.ret (.rt, ⟨91, [(2, .e (.c (.kb false)))], []⟩)) (.ret (.ex 3, ⟨91, [(3, .e (.c (.row 3)))], [(3, .row .str 9 acc)]⟩)))
def lp49 : LP := [(0, sumP q49a R49a), (3, sumP q49b R49b)]
set_option maxHeartbeats 8000000 in
theorem lp49_ok : LpsOk 0 C49 nr49 lp49 fn49.loops := by
  refine .all (by kernel_rfl) ?_
  simp only [lp49, List.forall_mem_cons, List.not_mem_nil, false_imp_iff, implies_true, and_true]
  constructor
  · refine .pat q49a R49a (fun v => (v.1.1.size - v.1.2.2.1).toNat) ?_
    rintro ⟨⟨(s : ByteArray), ⟨⟩, (k : Int), ⟨⟩⟩, ⟨(acc : List ByteArray), ⟨⟩⟩⟩ ih
    refine Gives.run (t' := .ite (decide (k < (((ByteArray.size s) : Nat) : Int))) (.need (inR k (ByteArray.size s)) (.ite ((bt s k) == (47 : Int)) (.need true (.need (decide ((((List.length acc) + (List.length [(ByteArray.mk (List.toArray ([] : List UInt8)))]) : Nat) * (Lay.bytes L9) : Nat) ≤ 140737488355328)) (.need (decide (((-(9223372036854775808 : Int) : Int) ≤ (k + (1 : Int) : Int)) ∧ ((k + (1 : Int) : Int) ≤ (9223372036854775807 : Int)))) (.ret (.nx, ⟨91, [(0, rS s), (3, .e (.c (.row 30))), (4, rI (k + (1 : Int) : Int))], [(30, .row Ty.str 9 (acc ++ [(ByteArray.mk (List.toArray ([] : List UInt8)))]))]⟩))))) (.ite (decide ((97 : Int) ≤ (bt s k))) (.ite (decide ((bt s k) ≤ (122 : Int))) (.need (decide (((-(9223372036854775808 : Int) : Int) ≤ ((((List.length acc) : Nat) : Int) - (1 : Int) : Int)) ∧ (((((List.length acc) : Nat) : Int) - (1 : Int) : Int) ≤ (9223372036854775807 : Int)))) (.need (decide (((-(9223372036854775808 : Int) : Int) ≤ ((((List.length acc) : Nat) : Int) - (1 : Int) : Int)) ∧ (((((List.length acc) : Nat) : Int) - (1 : Int) : Int) ≤ (9223372036854775807 : Int)))) (.need (inR ((((List.length acc) : Nat) : Int) - (1 : Int) : Int) (List.length acc)) (.need (decide ((Int.toNat ((((List.length acc) : Nat) : Int) - (1 : Int) : Int)) < (List.length acc))) (.need true (.need (decide (((ByteArray.size (List.getD acc (Int.toNat ((((List.length acc) : Nat) : Int) - (1 : Int) : Int)) ByteArray.empty)) + (ByteArray.size (txt [(bt s k)])) : Nat) ≤ 9223372036854775807)) (.need (inR ((((List.length acc) : Nat) : Int) - (1 : Int) : Int) (List.length acc)) (.need (decide ((Int.toNat ((((List.length acc) : Nat) : Int) - (1 : Int) : Int)) < (List.length acc))) (.need (decide (((-(9223372036854775808 : Int) : Int) ≤ (k + (1 : Int) : Int)) ∧ ((k + (1 : Int) : Int) ≤ (9223372036854775807 : Int)))) (.ret (.nx, ⟨91, [(0, rS s), (3, .e (.c (.row 3))), (4, rI (k + (1 : Int) : Int))], [(3, .row Ty.str 9 (List.set acc (Int.toNat ((((List.length acc) : Nat) : Int) - (1 : Int) : Int)) ((List.getD acc (Int.toNat ((((List.length acc) : Nat) : Int) - (1 : Int) : Int)) ByteArray.empty) ++ (txt [(bt s k)]))))]⟩))))))))))) (.ite (decide ((48 : Int) ≤ (bt s k))) (.ite (decide ((bt s k) ≤ (57 : Int))) (.need (decide (((-(9223372036854775808 : Int) : Int) ≤ ((((List.length acc) : Nat) : Int) - (1 : Int) : Int)) ∧ (((((List.length acc) : Nat) : Int) - (1 : Int) : Int) ≤ (9223372036854775807 : Int)))) (.need (decide (((-(9223372036854775808 : Int) : Int) ≤ ((((List.length acc) : Nat) : Int) - (1 : Int) : Int)) ∧ (((((List.length acc) : Nat) : Int) - (1 : Int) : Int) ≤ (9223372036854775807 : Int)))) (.need (inR ((((List.length acc) : Nat) : Int) - (1 : Int) : Int) (List.length acc)) (.need (decide ((Int.toNat ((((List.length acc) : Nat) : Int) - (1 : Int) : Int)) < (List.length acc))) (.need true (.need (decide (((ByteArray.size (List.getD acc (Int.toNat ((((List.length acc) : Nat) : Int) - (1 : Int) : Int)) ByteArray.empty)) + (ByteArray.size (txt [(bt s k)])) : Nat) ≤ 9223372036854775807)) (.need (inR ((((List.length acc) : Nat) : Int) - (1 : Int) : Int) (List.length acc)) (.need (decide ((Int.toNat ((((List.length acc) : Nat) : Int) - (1 : Int) : Int)) < (List.length acc))) (.need (decide (((-(9223372036854775808 : Int) : Int) ≤ (k + (1 : Int) : Int)) ∧ ((k + (1 : Int) : Int) ≤ (9223372036854775807 : Int)))) (.ret (.nx, ⟨91, [(0, rS s), (3, .e (.c (.row 3))), (4, rI (k + (1 : Int) : Int))], [(3, .row Ty.str 9 (List.set acc (Int.toNat ((((List.length acc) : Nat) : Int) - (1 : Int) : Int)) ((List.getD acc (Int.toNat ((((List.length acc) : Nat) : Int) - (1 : Int) : Int)) ByteArray.empty) ++ (txt [(bt s k)]))))]⟩))))))))))) (.ite ((bt s k) == (46 : Int)) (.need (decide (((-(9223372036854775808 : Int) : Int) ≤ ((((List.length acc) : Nat) : Int) - (1 : Int) : Int)) ∧ (((((List.length acc) : Nat) : Int) - (1 : Int) : Int) ≤ (9223372036854775807 : Int)))) (.need (decide (((-(9223372036854775808 : Int) : Int) ≤ ((((List.length acc) : Nat) : Int) - (1 : Int) : Int)) ∧ (((((List.length acc) : Nat) : Int) - (1 : Int) : Int) ≤ (9223372036854775807 : Int)))) (.need (inR ((((List.length acc) : Nat) : Int) - (1 : Int) : Int) (List.length acc)) (.need (decide ((Int.toNat ((((List.length acc) : Nat) : Int) - (1 : Int) : Int)) < (List.length acc))) (.need true (.need (decide (((ByteArray.size (List.getD acc (Int.toNat ((((List.length acc) : Nat) : Int) - (1 : Int) : Int)) ByteArray.empty)) + (ByteArray.size (txt [(bt s k)])) : Nat) ≤ 9223372036854775807)) (.need (inR ((((List.length acc) : Nat) : Int) - (1 : Int) : Int) (List.length acc)) (.need (decide ((Int.toNat ((((List.length acc) : Nat) : Int) - (1 : Int) : Int)) < (List.length acc))) (.need (decide (((-(9223372036854775808 : Int) : Int) ≤ (k + (1 : Int) : Int)) ∧ ((k + (1 : Int) : Int) ≤ (9223372036854775807 : Int)))) (.ret (.nx, ⟨91, [(0, rS s), (3, .e (.c (.row 3))), (4, rI (k + (1 : Int) : Int))], [(3, .row Ty.str 9 (List.set acc (Int.toNat ((((List.length acc) : Nat) : Int) - (1 : Int) : Int)) ((List.getD acc (Int.toNat ((((List.length acc) : Nat) : Int) - (1 : Int) : Int)) ByteArray.empty) ++ (txt [(bt s k)]))))]⟩))))))))))) (.ite ((bt s k) == (95 : Int)) (.need (decide (((-(9223372036854775808 : Int) : Int) ≤ ((((List.length acc) : Nat) : Int) - (1 : Int) : Int)) ∧ (((((List.length acc) : Nat) : Int) - (1 : Int) : Int) ≤ (9223372036854775807 : Int)))) (.need (decide (((-(9223372036854775808 : Int) : Int) ≤ ((((List.length acc) : Nat) : Int) - (1 : Int) : Int)) ∧ (((((List.length acc) : Nat) : Int) - (1 : Int) : Int) ≤ (9223372036854775807 : Int)))) (.need (inR ((((List.length acc) : Nat) : Int) - (1 : Int) : Int) (List.length acc)) (.need (decide ((Int.toNat ((((List.length acc) : Nat) : Int) - (1 : Int) : Int)) < (List.length acc))) (.need true (.need (decide (((ByteArray.size (List.getD acc (Int.toNat ((((List.length acc) : Nat) : Int) - (1 : Int) : Int)) ByteArray.empty)) + (ByteArray.size (txt [(bt s k)])) : Nat) ≤ 9223372036854775807)) (.need (inR ((((List.length acc) : Nat) : Int) - (1 : Int) : Int) (List.length acc)) (.need (decide ((Int.toNat ((((List.length acc) : Nat) : Int) - (1 : Int) : Int)) < (List.length acc))) (.need (decide (((-(9223372036854775808 : Int) : Int) ≤ (k + (1 : Int) : Int)) ∧ ((k + (1 : Int) : Int) ≤ (9223372036854775807 : Int)))) (.ret (.nx, ⟨91, [(0, rS s), (3, .e (.c (.row 3))), (4, rI (k + (1 : Int) : Int))], [(3, .row Ty.str 9 (List.set acc (Int.toNat ((((List.length acc) : Nat) : Int) - (1 : Int) : Int)) ((List.getD acc (Int.toNat ((((List.length acc) : Nat) : Int) - (1 : Int) : Int)) ByteArray.empty) ++ (txt [(bt s k)]))))]⟩))))))))))) (.ret (.rt, ⟨91, [(2, .e (.c (.kb false)))], []⟩))))) (.ite ((bt s k) == (46 : Int)) (.need (decide (((-(9223372036854775808 : Int) : Int) ≤ ((((List.length acc) : Nat) : Int) - (1 : Int) : Int)) ∧ (((((List.length acc) : Nat) : Int) - (1 : Int) : Int) ≤ (9223372036854775807 : Int)))) (.need (decide (((-(9223372036854775808 : Int) : Int) ≤ ((((List.length acc) : Nat) : Int) - (1 : Int) : Int)) ∧ (((((List.length acc) : Nat) : Int) - (1 : Int) : Int) ≤ (9223372036854775807 : Int)))) (.need (inR ((((List.length acc) : Nat) : Int) - (1 : Int) : Int) (List.length acc)) (.need (decide ((Int.toNat ((((List.length acc) : Nat) : Int) - (1 : Int) : Int)) < (List.length acc))) (.need true (.need (decide (((ByteArray.size (List.getD acc (Int.toNat ((((List.length acc) : Nat) : Int) - (1 : Int) : Int)) ByteArray.empty)) + (ByteArray.size (txt [(bt s k)])) : Nat) ≤ 9223372036854775807)) (.need (inR ((((List.length acc) : Nat) : Int) - (1 : Int) : Int) (List.length acc)) (.need (decide ((Int.toNat ((((List.length acc) : Nat) : Int) - (1 : Int) : Int)) < (List.length acc))) (.need (decide (((-(9223372036854775808 : Int) : Int) ≤ (k + (1 : Int) : Int)) ∧ ((k + (1 : Int) : Int) ≤ (9223372036854775807 : Int)))) (.ret (.nx, ⟨91, [(0, rS s), (3, .e (.c (.row 3))), (4, rI (k + (1 : Int) : Int))], [(3, .row Ty.str 9 (List.set acc (Int.toNat ((((List.length acc) : Nat) : Int) - (1 : Int) : Int)) ((List.getD acc (Int.toNat ((((List.length acc) : Nat) : Int) - (1 : Int) : Int)) ByteArray.empty) ++ (txt [(bt s k)]))))]⟩))))))))))) (.ite ((bt s k) == (95 : Int)) (.need (decide (((-(9223372036854775808 : Int) : Int) ≤ ((((List.length acc) : Nat) : Int) - (1 : Int) : Int)) ∧ (((((List.length acc) : Nat) : Int) - (1 : Int) : Int) ≤ (9223372036854775807 : Int)))) (.need (decide (((-(9223372036854775808 : Int) : Int) ≤ ((((List.length acc) : Nat) : Int) - (1 : Int) : Int)) ∧ (((((List.length acc) : Nat) : Int) - (1 : Int) : Int) ≤ (9223372036854775807 : Int)))) (.need (inR ((((List.length acc) : Nat) : Int) - (1 : Int) : Int) (List.length acc)) (.need (decide ((Int.toNat ((((List.length acc) : Nat) : Int) - (1 : Int) : Int)) < (List.length acc))) (.need true (.need (decide (((ByteArray.size (List.getD acc (Int.toNat ((((List.length acc) : Nat) : Int) - (1 : Int) : Int)) ByteArray.empty)) + (ByteArray.size (txt [(bt s k)])) : Nat) ≤ 9223372036854775807)) (.need (inR ((((List.length acc) : Nat) : Int) - (1 : Int) : Int) (List.length acc)) (.need (decide ((Int.toNat ((((List.length acc) : Nat) : Int) - (1 : Int) : Int)) < (List.length acc))) (.need (decide (((-(9223372036854775808 : Int) : Int) ≤ (k + (1 : Int) : Int)) ∧ ((k + (1 : Int) : Int) ≤ (9223372036854775807 : Int)))) (.ret (.nx, ⟨91, [(0, rS s), (3, .e (.c (.row 3))), (4, rI (k + (1 : Int) : Int))], [(3, .row Ty.str 9 (List.set acc (Int.toNat ((((List.length acc) : Nat) : Int) - (1 : Int) : Int)) ((List.getD acc (Int.toNat ((((List.length acc) : Nat) : Int) - (1 : Int) : Int)) ByteArray.empty) ++ (txt [(bt s k)]))))]⟩))))))))))) (.ret (.rt, ⟨91, [(2, .e (.c (.kb false)))], []⟩)))))) (.ite (decide ((48 : Int) ≤ (bt s k))) (.ite (decide ((bt s k) ≤ (57 : Int))) (.need (decide (((-(9223372036854775808 : Int) : Int) ≤ ((((List.length acc) : Nat) : Int) - (1 : Int) : Int)) ∧ (((((List.length acc) : Nat) : Int) - (1 : Int) : Int) ≤ (9223372036854775807 : Int)))) (.need (decide (((-(9223372036854775808 : Int) : Int) ≤ ((((List.length acc) : Nat) : Int) - (1 : Int) : Int)) ∧ (((((List.length acc) : Nat) : Int) - (1 : Int) : Int) ≤ (9223372036854775807 : Int)))) (.need (inR ((((List.length acc) : Nat) : Int) - (1 : Int) : Int) (List.length acc)) (.need (decide ((Int.toNat ((((List.length acc) : Nat) : Int) - (1 : Int) : Int)) < (List.length acc))) (.need true (.need (decide (((ByteArray.size (List.getD acc (Int.toNat ((((List.length acc) : Nat) : Int) - (1 : Int) : Int)) ByteArray.empty)) + (ByteArray.size (txt [(bt s k)])) : Nat) ≤ 9223372036854775807)) (.need (inR ((((List.length acc) : Nat) : Int) - (1 : Int) : Int) (List.length acc)) (.need (decide ((Int.toNat ((((List.length acc) : Nat) : Int) - (1 : Int) : Int)) < (List.length acc))) (.need (decide (((-(9223372036854775808 : Int) : Int) ≤ (k + (1 : Int) : Int)) ∧ ((k + (1 : Int) : Int) ≤ (9223372036854775807 : Int)))) (.ret (.nx, ⟨91, [(0, rS s), (3, .e (.c (.row 3))), (4, rI (k + (1 : Int) : Int))], [(3, .row Ty.str 9 (List.set acc (Int.toNat ((((List.length acc) : Nat) : Int) - (1 : Int) : Int)) ((List.getD acc (Int.toNat ((((List.length acc) : Nat) : Int) - (1 : Int) : Int)) ByteArray.empty) ++ (txt [(bt s k)]))))]⟩))))))))))) (.ite ((bt s k) == (46 : Int)) (.need (decide (((-(9223372036854775808 : Int) : Int) ≤ ((((List.length acc) : Nat) : Int) - (1 : Int) : Int)) ∧ (((((List.length acc) : Nat) : Int) - (1 : Int) : Int) ≤ (9223372036854775807 : Int)))) (.need (decide (((-(9223372036854775808 : Int) : Int) ≤ ((((List.length acc) : Nat) : Int) - (1 : Int) : Int)) ∧ (((((List.length acc) : Nat) : Int) - (1 : Int) : Int) ≤ (9223372036854775807 : Int)))) (.need (inR ((((List.length acc) : Nat) : Int) - (1 : Int) : Int) (List.length acc)) (.need (decide ((Int.toNat ((((List.length acc) : Nat) : Int) - (1 : Int) : Int)) < (List.length acc))) (.need true (.need (decide (((ByteArray.size (List.getD acc (Int.toNat ((((List.length acc) : Nat) : Int) - (1 : Int) : Int)) ByteArray.empty)) + (ByteArray.size (txt [(bt s k)])) : Nat) ≤ 9223372036854775807)) (.need (inR ((((List.length acc) : Nat) : Int) - (1 : Int) : Int) (List.length acc)) (.need (decide ((Int.toNat ((((List.length acc) : Nat) : Int) - (1 : Int) : Int)) < (List.length acc))) (.need (decide (((-(9223372036854775808 : Int) : Int) ≤ (k + (1 : Int) : Int)) ∧ ((k + (1 : Int) : Int) ≤ (9223372036854775807 : Int)))) (.ret (.nx, ⟨91, [(0, rS s), (3, .e (.c (.row 3))), (4, rI (k + (1 : Int) : Int))], [(3, .row Ty.str 9 (List.set acc (Int.toNat ((((List.length acc) : Nat) : Int) - (1 : Int) : Int)) ((List.getD acc (Int.toNat ((((List.length acc) : Nat) : Int) - (1 : Int) : Int)) ByteArray.empty) ++ (txt [(bt s k)]))))]⟩))))))))))) (.ite ((bt s k) == (95 : Int)) (.need (decide (((-(9223372036854775808 : Int) : Int) ≤ ((((List.length acc) : Nat) : Int) - (1 : Int) : Int)) ∧ (((((List.length acc) : Nat) : Int) - (1 : Int) : Int) ≤ (9223372036854775807 : Int)))) (.need (decide (((-(9223372036854775808 : Int) : Int) ≤ ((((List.length acc) : Nat) : Int) - (1 : Int) : Int)) ∧ (((((List.length acc) : Nat) : Int) - (1 : Int) : Int) ≤ (9223372036854775807 : Int)))) (.need (inR ((((List.length acc) : Nat) : Int) - (1 : Int) : Int) (List.length acc)) (.need (decide ((Int.toNat ((((List.length acc) : Nat) : Int) - (1 : Int) : Int)) < (List.length acc))) (.need true (.need (decide (((ByteArray.size (List.getD acc (Int.toNat ((((List.length acc) : Nat) : Int) - (1 : Int) : Int)) ByteArray.empty)) + (ByteArray.size (txt [(bt s k)])) : Nat) ≤ 9223372036854775807)) (.need (inR ((((List.length acc) : Nat) : Int) - (1 : Int) : Int) (List.length acc)) (.need (decide ((Int.toNat ((((List.length acc) : Nat) : Int) - (1 : Int) : Int)) < (List.length acc))) (.need (decide (((-(9223372036854775808 : Int) : Int) ≤ (k + (1 : Int) : Int)) ∧ ((k + (1 : Int) : Int) ≤ (9223372036854775807 : Int)))) (.ret (.nx, ⟨91, [(0, rS s), (3, .e (.c (.row 3))), (4, rI (k + (1 : Int) : Int))], [(3, .row Ty.str 9 (List.set acc (Int.toNat ((((List.length acc) : Nat) : Int) - (1 : Int) : Int)) ((List.getD acc (Int.toNat ((((List.length acc) : Nat) : Int) - (1 : Int) : Int)) ByteArray.empty) ++ (txt [(bt s k)]))))]⟩))))))))))) (.ret (.rt, ⟨91, [(2, .e (.c (.kb false)))], []⟩))))) (.ite ((bt s k) == (46 : Int)) (.need (decide (((-(9223372036854775808 : Int) : Int) ≤ ((((List.length acc) : Nat) : Int) - (1 : Int) : Int)) ∧ (((((List.length acc) : Nat) : Int) - (1 : Int) : Int) ≤ (9223372036854775807 : Int)))) (.need (decide (((-(9223372036854775808 : Int) : Int) ≤ ((((List.length acc) : Nat) : Int) - (1 : Int) : Int)) ∧ (((((List.length acc) : Nat) : Int) - (1 : Int) : Int) ≤ (9223372036854775807 : Int)))) (.need (inR ((((List.length acc) : Nat) : Int) - (1 : Int) : Int) (List.length acc)) (.need (decide ((Int.toNat ((((List.length acc) : Nat) : Int) - (1 : Int) : Int)) < (List.length acc))) (.need true (.need (decide (((ByteArray.size (List.getD acc (Int.toNat ((((List.length acc) : Nat) : Int) - (1 : Int) : Int)) ByteArray.empty)) + (ByteArray.size (txt [(bt s k)])) : Nat) ≤ 9223372036854775807)) (.need (inR ((((List.length acc) : Nat) : Int) - (1 : Int) : Int) (List.length acc)) (.need (decide ((Int.toNat ((((List.length acc) : Nat) : Int) - (1 : Int) : Int)) < (List.length acc))) (.need (decide (((-(9223372036854775808 : Int) : Int) ≤ (k + (1 : Int) : Int)) ∧ ((k + (1 : Int) : Int) ≤ (9223372036854775807 : Int)))) (.ret (.nx, ⟨91, [(0, rS s), (3, .e (.c (.row 3))), (4, rI (k + (1 : Int) : Int))], [(3, .row Ty.str 9 (List.set acc (Int.toNat ((((List.length acc) : Nat) : Int) - (1 : Int) : Int)) ((List.getD acc (Int.toNat ((((List.length acc) : Nat) : Int) - (1 : Int) : Int)) ByteArray.empty) ++ (txt [(bt s k)]))))]⟩))))))))))) (.ite ((bt s k) == (95 : Int)) (.need (decide (((-(9223372036854775808 : Int) : Int) ≤ ((((List.length acc) : Nat) : Int) - (1 : Int) : Int)) ∧ (((((List.length acc) : Nat) : Int) - (1 : Int) : Int) ≤ (9223372036854775807 : Int)))) (.need (decide (((-(9223372036854775808 : Int) : Int) ≤ ((((List.length acc) : Nat) : Int) - (1 : Int) : Int)) ∧ (((((List.length acc) : Nat) : Int) - (1 : Int) : Int) ≤ (9223372036854775807 : Int)))) (.need (inR ((((List.length acc) : Nat) : Int) - (1 : Int) : Int) (List.length acc)) (.need (decide ((Int.toNat ((((List.length acc) : Nat) : Int) - (1 : Int) : Int)) < (List.length acc))) (.need true (.need (decide (((ByteArray.size (List.getD acc (Int.toNat ((((List.length acc) : Nat) : Int) - (1 : Int) : Int)) ByteArray.empty)) + (ByteArray.size (txt [(bt s k)])) : Nat) ≤ 9223372036854775807)) (.need (inR ((((List.length acc) : Nat) : Int) - (1 : Int) : Int) (List.length acc)) (.need (decide ((Int.toNat ((((List.length acc) : Nat) : Int) - (1 : Int) : Int)) < (List.length acc))) (.need (decide (((-(9223372036854775808 : Int) : Int) ≤ (k + (1 : Int) : Int)) ∧ ((k + (1 : Int) : Int) ≤ (9223372036854775807 : Int)))) (.ret (.nx, ⟨91, [(0, rS s), (3, .e (.c (.row 3))), (4, rI (k + (1 : Int) : Int))], [(3, .row Ty.str 9 (List.set acc (Int.toNat ((((List.length acc) : Nat) : Int) - (1 : Int) : Int)) ((List.getD acc (Int.toNat ((((List.length acc) : Nat) : Int) - (1 : Int) : Int)) ByteArray.empty) ++ (txt [(bt s k)]))))]⟩))))))))))) (.ret (.rt, ⟨91, [(2, .e (.c (.kb false)))], []⟩)))))))) (.ret (.ex 0, ⟨91, [(3, .e (.c (.row 3)))], [(3, .row Ty.str 9 acc)]⟩))) (by kernel_rfl) ?_
    refine .rnd fun ⟨h1, h2, h3, h4, h5, h6⟩ => ?_
    have hs := strB_length s
    refine .lif (fun hk => ?_) (fun hk => ?_)
    · have e : (k + 1).toNat = k.toNat + 1 := by omega
      rw [drop_at (strB s) k.toNat 0 (by omega)]
      refine .lneed (inR_of h1 (by omega)) ?_
      have hx8 : 0 ≤ bt s k ∧ bt s k ≤ 255 := by rw [bt_strB]; exact u8s_at (u8s_strB s) k.toNat
      rw [← bt_strB]
      generalize bt s k = x at hx8 ⊢
      have hl : (acc.getD (acc.length - 1) ByteArray.empty).size ≤ k := by
        have := of_decide_eq_true (List.all_eq_true.1 h6 _ (List.getElem_mem (show acc.length - 1 < acc.length by omega)))
        rw [show acc[acc.length - 1]'(by omega) = acc.getD (acc.length - 1) ByteArray.empty by simp [List.getD_eq_getElem?_getD, List.getElem?_eq_getElem (show acc.length - 1 < acc.length by omega)]] at this
        exact this
      have ht : (txt [x]).size = 1 := by unfold txt; rw [strOfNums_size]; rfl
      have en : ((acc.length : Int) - 1).toNat = acc.length - 1 := by omega
      refine .lite (fun hx => ?_) (fun hx => ?_)
      · have hx : x = 47 := by simpa using hx
        subst hx
        refine .lneed rfl (.lnd (by show (acc.length + 1) * 16 ≤ _; omega) (.lnd (by omega) ?_))
        refine Gives.next (σ' := q49a.st ((s, (), k + 1, ()), (acc ++ [ByteArray.empty], ()))) (by kernel_rfl) ((ih ((s, (), k + 1, ()), (acc ++ [ByteArray.empty], ())) (by simp only; omega)).trans ?_)
        refine .nd ⟨by omega, by omega, h3, by rw [List.length_append]; simp, by rw [List.length_append]; simp; omega, ?_⟩ ?_
        · rw [List.all_append, Bool.and_eq_true]
          exact ⟨List.all_eq_true.2 fun y hy => decide_eq_true (by have := of_decide_eq_true (List.all_eq_true.1 h6 y hy); omega), by rw [List.all_cons, decide_eq_true (show ((ByteArray.empty.size : Nat) : Int) ≤ k + 1 by show ((0 : Nat) : Int) ≤ k + 1; omega)]; rfl⟩
        rw [e]; exact .rb (all_t rfl) (.refl _)
      have hx : x ≠ 47 := by simpa using hx
      rw [List.foldl_cons, show stepP acc x = acc.set (acc.length - 1) (acc.getD (acc.length - 1) ByteArray.empty ++ txt [x]) by unfold stepP; rw [if_neg (by simpa using hx)]]
      have hsz : (acc.getD (acc.length - 1) ByteArray.empty ++ txt [x]).size = (acc.getD (acc.length - 1) ByteArray.empty).size + 1 := by rw [ByteArray.size_append, ht]
      repeat' first
        | with_reducible refine .lif (fun h => ?_) (fun h => ?_)
        | with_reducible refine .lite (fun h => ?_) (fun h => ?_)
      all_goals first
        | (have hok : okC x = false := by clear ih; simp_all [okC, letter] <;> omega
           exact .rff (all_f hok) (.refl _))
        | (have hok : okC x = true := by clear ih; simp_all [okC, letter] <;> omega
           refine .rb (all_t hok) ?_
           rw [en]
           refine .lnd (by omega) (.lnd (by omega) (.lneed (inR_of (by omega) (by omega)) (.lnd (by omega) (.lneed rfl (.lnd ?_ ?_)))))
           · rw [ht]; omega
           refine .lneed (inR_of (by omega) (by omega)) (.lnd (by omega) (.lnd (by omega) ?_))
           refine Gives.next (σ' := q49a.st ((s, (), k + 1, ()), (acc.set (acc.length - 1) (acc.getD (acc.length - 1) ByteArray.empty ++ txt [x]), ()))) (by kernel_rfl) ((ih ((s, (), k + 1, ()), (acc.set (acc.length - 1) (acc.getD (acc.length - 1) ByteArray.empty ++ txt [x]), ())) (by simp only; omega)).trans ?_)
           refine .nd ⟨by omega, by omega, h3, by rw [List.length_set]; omega, by rw [List.length_set]; omega, ?_⟩ ?_
           · refine List.all_eq_true.2 fun y hy => decide_eq_true ?_
             rcases List.mem_or_eq_of_mem_set hy with hy | rfl
             · have := of_decide_eq_true (List.all_eq_true.1 h6 y hy); omega
             · omega
           · rw [e]; exact .refl _)
    · rw [List.drop_eq_nil_of_le (by omega)]; exact .rtt rfl (.refl _)
  · refine .pat q49b R49b (fun v => (v.2.1.length - v.1.2.1).toNat) ?_
    rintro ⟨⟨⟨⟩, (k : Int), ⟨⟩⟩, ⟨(acc : List ByteArray), ⟨⟩⟩⟩ ih
    refine Gives.run (t' := .ite (decide (k < (((List.length acc) : Nat) : Int))) (.need (inR k (List.length acc)) (.need (decide ((Int.toNat k) < (List.length acc))) (.ite (decide ((List.getD acc (Int.toNat k) ByteArray.empty) = (ByteArray.mk (List.toArray ([] : List UInt8))))) (.ret (.rt, ⟨91, [(2, .e (.c (.kb false)))], []⟩)) (.need (inR k (List.length acc)) (.need (decide ((Int.toNat k) < (List.length acc))) (.ite (decide ((List.getD acc (Int.toNat k) ByteArray.empty) = (ByteArray.mk (List.toArray [(46 : UInt8)])))) (.ret (.rt, ⟨91, [(2, .e (.c (.kb false)))], []⟩)) (.need (inR k (List.length acc)) (.need (decide ((Int.toNat k) < (List.length acc))) (.ite (decide ((List.getD acc (Int.toNat k) ByteArray.empty) = (ByteArray.mk (List.toArray [(46 : UInt8), (46 : UInt8)])))) (.ret (.rt, ⟨91, [(2, .e (.c (.kb false)))], []⟩)) (.need (decide (((-(9223372036854775808 : Int) : Int) ≤ (k + (1 : Int) : Int)) ∧ ((k + (1 : Int) : Int) ≤ (9223372036854775807 : Int)))) (.ret (.nx, ⟨91, [(3, .e (.c (.row 3))), (6, rI (k + (1 : Int) : Int))], [(3, .row Ty.str 9 acc)]⟩)))))))))))) (.ret (.ex 3, ⟨91, [(3, .e (.c (.row 3)))], [(3, .row Ty.str 9 acc)]⟩))) (by kernel_rfl) ?_
    refine .rnd fun ⟨h1, h2, h3⟩ => ?_
    refine .lif (fun hk => ?_) (fun hk => ?_)
    · have e : (k + 1).toNat = k.toNat + 1 := by omega
      rw [drop_at acc k.toNat ByteArray.empty (by omega)]
      refine .lneed (inR_of h1 (by omega)) (.lnd (by omega) ?_)
      generalize acc.getD k.toNat ByteArray.empty = x
      refine .lite (fun hx => ?_) (fun hx => ?_)
      · exact .rtt (any_t (by unfold badP; rw [show decide (x = ByteArray.empty) = true from hx]; rfl)) (.refl _)
      refine .lneed (inR_of h1 (by omega)) (.lnd (by omega) (.lite (fun hy => ?_) (fun hy => ?_)))
      · exact .rtt (any_t (by unfold badP; rw [show decide (x = bs ".") = true from hy]; simp)) (.refl _)
      refine .lneed (inR_of h1 (by omega)) (.lnd (by omega) (.lite (fun hz => ?_) (fun hz => ?_)))
      · exact .rtt (any_t (by unfold badP; rw [show decide (x = bs "..") = true from hz]; simp)) (.refl _)
      refine .rb (any_f (by unfold badP; rw [show decide (x = ByteArray.empty) = false from hx, show decide (x = bs ".") = false from hy, show decide (x = bs "..") = false from hz]; rfl)) (.lnd (by omega) ?_)
      refine Gives.next (σ' := q49b.st (((), k + 1, ()), (acc, ()))) (by kernel_rfl) ((ih (((), k + 1, ()), (acc, ())) (by simp only; omega)).trans ?_)
      refine .nd ⟨by omega, by omega, h3⟩ ?_
      rw [e]; exact .refl _
    · rw [List.drop_eq_nil_of_le (by omega)]; exact .rff rfl (.refl _)
set_option maxHeartbeats 2000000 in
theorem rname0_ok : CtrOk Tryz.prog 49 nameCtr := by
  refine .mk C49_ok mixed (q := fn49) (.of Tryz.func49 (by kernel_rfl)) lp49_ok (by decide) ?_
  rintro ⟨(s : ByteArray), ⟨⟩⟩ hb
  refine Gives.of_eq (t' := .ite (decide ((((ByteArray.size s) : Nat) : Int) < (1 : Int))) (.ret (rB false, ⟨0, [], []⟩)) (.ite (decide ((8 : Int) < (((ByteArray.size s) : Nat) : Int))) (.ret (rB false, ⟨0, [], []⟩)) (.need (decide (((0 : Int) ≤ (0 : Int)) ∧ (((0 : Int) ≤ (((ByteArray.size s) : Nat) : Int)) ∧ (((ByteArray.size s) ≤ 8) ∧ ((0 < (List.length [(ByteArray.mk (List.toArray ([] : List UInt8)))])) ∧ (((((List.length [(ByteArray.mk (List.toArray ([] : List UInt8)))]) : Nat) : Int) ≤ ((0 : Int) + (1 : Int) : Int)) ∧ ((List.all [(ByteArray.mk (List.toArray ([] : List UInt8)))] (fun x => (decide ((((ByteArray.size x) : Nat) : Int) ≤ (0 : Int))))) = true))))))) (.ite (List.all (List.drop 0 (strB s)) okC) (.need (decide (((0 : Int) ≤ (0 : Int)) ∧ (((0 : Int) ≤ (((List.length (List.foldl stepP [(ByteArray.mk (List.toArray ([] : List UInt8)))] (List.drop 0 (strB s)))) : Nat) : Int)) ∧ ((List.length (List.foldl stepP [(ByteArray.mk (List.toArray ([] : List UInt8)))] (List.drop 0 (strB s)))) ≤ 1000000)))) (.ite (List.any (List.drop 0 (List.foldl stepP [(ByteArray.mk (List.toArray ([] : List UInt8)))] (List.drop 0 (strB s)))) badP) (.ret (rB false, ⟨0, [], []⟩)) (.ret (rB (decide ((((List.length (List.foldl stepP [(ByteArray.mk (List.toArray ([] : List UInt8)))] (List.drop 0 (strB s)))) : Nat) : Int) ≤ (2 : Int))), ⟨0, [], []⟩)))) (.ret (rB false, ⟨0, [], []⟩)))))) (by kernel_rfl) ?_
  show Gives _ (.ret (rB (nameF s), (⟨0, [], []⟩ : St)))
  rw [← nameR_eq]
  unfold nameR
  have hs := strB_length s
  simp only [List.drop_zero]
  refine .if_ (fun h => ?_) (fun h => ?_)
  · rw [decide_eq_false (by omega)]; exact .refl _
  rw [decide_eq_true (show 1 ≤ s.size by omega)]
  refine .if_ (fun h' => ?_) (fun h' => ?_)
  · rw [decide_eq_false (show ¬ s.size ≤ 8 by omega)]; exact .refl _
  rw [decide_eq_true (show s.size ≤ 8 by omega)]
  have hpl : ∀ (l : List Int) (acc : List ByteArray), (l.foldl stepP acc).length ≤ acc.length + l.length := by
    intro l
    induction l with
    | nil => intro acc; exact Nat.le_refl _
    | cons c r ih =>
      intro acc
      have h1 := ih (stepP acc c)
      have h2 := stepP_len acc c
      rw [List.foldl_cons, List.length_cons]
      split at h2 <;> omega
  have hl := hpl (strB s) [ByteArray.empty]
  simp only [List.length_singleton] at hl
  refine .nd ⟨by omega, by omega, by omega, by simp, by simp, rfl⟩ (.ite (fun h1 => ?_) (fun h1 => ?_))
  · rw [h1]
    refine .nd ⟨by omega, by omega, ?_⟩ (.ite (fun h2 => ?_) (fun h2 => ?_))
    · show ((strB s).foldl stepP [ByteArray.empty]).length ≤ _; omega
    · have h2 : (partsP s).any badP = true := h2
      rw [h2]; exact .refl _
    · have h2 : (partsP s).any badP = false := h2
      rw [h2]
      have e : decide (((partsP s).length : Int) ≤ 2) = decide ((partsP s).length ≤ 2) := by rw [Bool.eq_iff_iff, decide_eq_true_iff, decide_eq_true_iff]; omega
      show Gives (.ret (rB (decide (((partsP s).length : Int) ≤ 2)), _)) _
      rw [e]; exact .refl _
  · rw [h1]; exact .refl _
end Go.Proofs.YtdngaaploooceaaGreatDoor.Sy

/- Contracts: the document's trees. -/
set_option maxRecDepth 100000
namespace Go.Proofs.YtdngaaploooceaaGreatDoor.Sy
open Go.RowKit Kit Go.Proofs
noncomputable def fn51 := mkFn Tryz.f51
def C51 : Cx := ⟨T, FL, [(49, nameCtr)], [], []⟩
theorem C51_ok : CxOk Tryz.prog C51 := ⟨T_ok, FL_ok, .cons rname0_ok (.nil _), .nil _⟩
def q51 : Frm := ⟨26, [(0, .dat .str), (4, .dat tI)], []⟩
/-- where the first stroke is, from place k on; -1: none -/
def strokeK (l : List Int) (k : Int) : Int := match l with
  | [] => -1
  | c :: r => if c == 47 then k else strokeK r (k + 1)
def R51 : q51.V → Tr (Ex × St) := fun (((s : ByteArray), (k : Int), _), _) =>
  .need (decide (0 ≤ k ∧ k ≤ s.size ∧ s.size ≤ 8)) (.ite (decide (0 ≤ strokeK ((strB s).drop k.toNat) k)) (.ret (.rt, ⟨26, [(2, rS (s.extract 0 (strokeK ((strB s).drop k.toNat) k).toNat)), (3, rS (s.extract ((strokeK ((strB s).drop k.toNat) k) + 1).toNat s.size))], []⟩)) (.ret (.ex 0, ⟨26, [(0, rS s)], []⟩)))
def lp51 : LP := [(0, sumP q51 R51)]
theorem lp51_ok : LpsOk 0 C51 [] lp51 fn51.loops := by
  refine .all (by kernel_rfl) ?_
  simp only [lp51, List.forall_mem_cons, List.not_mem_nil, false_imp_iff, implies_true, and_true]
  refine .pat q51 R51 (fun v => (v.1.1.size - v.1.2.1).toNat) ?_
  rintro ⟨⟨(s : ByteArray), (k : Int), ⟨⟩⟩, ⟨⟩⟩ ih
  refine Gives.run (t' := .ite (decide (k < (((ByteArray.size s) : Nat) : Int))) (.need (inR k (ByteArray.size s)) (.ite ((bt s k) == (47 : Int)) (.need (okB (0 : Int) k (ByteArray.size s)) (.need (decide (((-(9223372036854775808 : Int) : Int) ≤ (k + (1 : Int) : Int)) ∧ ((k + (1 : Int) : Int) ≤ (9223372036854775807 : Int)))) (.need (okB (k + (1 : Int) : Int) (((ByteArray.size s) : Nat) : Int) (ByteArray.size s)) (.ret (.rt, ⟨26, [(2, rS (ByteArray.extract s 0 (Int.toNat k))), (3, rS (ByteArray.extract s (Int.toNat (k + (1 : Int) : Int)) (ByteArray.size s)))], []⟩))))) (.need (decide (((-(9223372036854775808 : Int) : Int) ≤ (k + (1 : Int) : Int)) ∧ ((k + (1 : Int) : Int) ≤ (9223372036854775807 : Int)))) (.ret (.nx, ⟨26, [(0, rS s), (4, rI (k + (1 : Int) : Int))], []⟩))))) (.ret (.ex 0, ⟨26, [(0, rS s)], []⟩))) (by kernel_rfl) ?_
  refine .rnd fun ⟨h1, h2, h3⟩ => ?_
  have hs := strB_length s
  refine .lif (fun hk => ?_) (fun hk => ?_)
  · have e : (k + 1).toNat = k.toNat + 1 := by omega
    rw [drop_at (strB s) k.toNat 0 (by omega)]
    refine .lneed (inR_of h1 (by omega)) ?_
    rw [← bt_strB]
    generalize bt s k = x
    refine .lite (fun hx => ?_) (fun hx => ?_)
    · rw [show strokeK (x :: (strB s).drop (k.toNat + 1)) k = k by rw [strokeK, if_pos hx]]
      exact .lneed (by simp [okB]; omega) (.lnd (by omega) (.lneed (by simp [okB]; omega) (.rtt (decide_eq_true h1) (.refl _))))
    · rw [show strokeK (x :: (strB s).drop (k.toNat + 1)) k = strokeK ((strB s).drop (k.toNat + 1)) (k + 1) by rw [strokeK, if_neg (by rw [hx]; exact Bool.false_ne_true)]]
      refine .lnd (by omega) ?_
      refine Gives.next (σ' := q51.st ((s, k + 1, ()), ())) (by kernel_rfl) ((ih ((s, k + 1, ()), ()) (by simp only; omega)).trans ?_)
      refine .nd ⟨by omega, by omega, h3⟩ ?_
      rw [e]; exact .refl _
  · rw [List.drop_eq_nil_of_le (by omega)]
    exact .rff rfl (.refl _)
theorem strokeK_eq : ∀ (l : List UInt8) (k : Int), strokeK (l.map fun c => (c.toNat : Int)) k = if Lib.indexByte l 47 < 0 then -1 else Lib.indexByte l 47 + k
  | [], k => rfl
  | c :: l, k => by
    have ih := strokeK_eq l (k + 1)
    have hge := Lib.indexByte_ge l 47
    rw [List.map_cons, strokeK, Lib.indexByte, ih]
    by_cases hc : c = 47
    · subst hc
      simp
    · have h1 : ((c.toNat : Int) == 47) = false := by
        rw [beq_eq_false_iff_ne]
        intro h
        exact hc (UInt8.toNat_inj.1 (by show c.toNat = 47; omega))
      have h2 : (c == 47) = false := by simpa using hc
      rw [if_neg (by rw [h1]; exact Bool.false_ne_true)]
      simp only [h2, Bool.false_eq_true, if_false]
      by_cases hl : Lib.indexByte l 47 < 0
      · have : Lib.indexByte l 47 = -1 := by omega
        simp [this]
      · have hb : (Lib.indexByte l 47 == -1) = false := by rw [beq_eq_false_iff_ne]; omega
        simp only [hl, hb, if_false, Bool.false_eq_true]
        rw [if_neg (by omega)]; omega
theorem strokeK_s (s : ByteArray) : strokeK (strB s) 0 = stroke s := by
  unfold strB
  rw [strokeK_eq]
  show (if stroke s < 0 then -1 else stroke s + 0) = stroke s
  have := (stroke_le s).1
  split <;> omega
theorem rsplit_ok : CtrOk Tryz.prog 51 splitCtr := by
  refine .mk C51_ok mixed (q := fn51) (.of Tryz.func51 (by kernel_rfl)) lp51_ok (by decide) ?_
  rintro ⟨(s : ByteArray), ⟨⟩⟩ -
  refine Gives.of_eq (t' := .ite (!(nameF s)) (.ret (.tup [.c (.d (.v (.string (ByteArray.mk (List.toArray ([] : List UInt8)))))), .c (.d (.v (.string (ByteArray.mk (List.toArray ([] : List UInt8))))))], ⟨0, [], []⟩)) (.need (decide (((0 : Int) ≤ (0 : Int)) ∧ (((0 : Int) ≤ (((ByteArray.size s) : Nat) : Int)) ∧ ((ByteArray.size s) ≤ 8)))) (.ite (decide ((0 : Int) ≤ (strokeK (List.drop 0 (strB s)) (0 : Int)))) (.ret (.tup [.c (.d (.v (.string (ByteArray.extract s 0 (Int.toNat (strokeK (List.drop 0 (strB s)) (0 : Int))))))), .c (.d (.v (.string (ByteArray.extract s (Int.toNat ((strokeK (List.drop 0 (strB s)) (0 : Int)) + (1 : Int) : Int)) (ByteArray.size s)))))], ⟨0, [], []⟩)) (.ret (.tup [.c (.d (.v (.string (ByteArray.mk (List.toArray ([] : List UInt8)))))), .c (.d (.v (.string s)))], ⟨0, [], []⟩))))) (by kernel_rfl) ?_
  show Gives _ (.ret (SV.tup [eS (splitF s).1, eS (splitF s).2], (⟨0, [], []⟩ : St)))
  unfold splitF
  refine .ite (fun h => ?_) (fun h => ?_)
  · rw [if_neg (by simpa using h)]; exact .refl _
  have h : nameF s = true := by simpa using h
  rw [if_pos h, List.drop_zero, strokeK_s]
  have h8 := nameF_size h
  refine .nd ⟨by omega, by omega, h8⟩ ?_
  unfold cut2
  refine .if_ (fun hk => ?_) (fun hk => ?_)
  · simp only [if_pos hk, if_true]
    rw [show (stroke s + 1).toNat = (stroke s).toNat + 1 by omega]; exact .refl _
  · simp only [if_neg hk]; exact .refl _
abbrev tItem : Ty := .pair .str (.pair .bool tI)
abbrev Item : Type := ByteArray × Bool × Int
abbrev tRT : Ty := .pair (.sl tItem) tI
noncomputable def fn50 := mkFn Tryz.f50
def C50 : Cx := ⟨T, FL, [], [], []⟩
theorem C50_ok : CxOk Tryz.prog C50 := ⟨T_ok, FL_ok, .nil _, .nil _⟩
def q50 : Frm := ⟨26, [(0, .ptr tRT), (1, .dat .str), (5, .dat tI)], []⟩
/-- where a path is, from place k on; -1: nowhere -/
def atK (p : ByteArray) (l : List Item) (k : Int) : Int := match l with
  | [] => -1
  | x :: r => if decide (x.1 = p) then k else atK p r (k + 1)
def R50 : q50.V → Tr (Ex × St) := fun (((t : tRT.El), (p : ByteArray), (k : Int), _), _) =>
  .need (decide (0 ≤ k ∧ k ≤ t.1.length ∧ t.1.length ≤ 1000000)) (.ite (decide (0 ≤ atK p (t.1.drop k.toNat) k)) (.ret (.rt, ⟨26, [(4, rI (atK p (t.1.drop k.toNat) k))], []⟩)) (.ret (.ex 0, ⟨26, [], []⟩)))
def lp50 : LP := [(0, sumP q50 R50)]
theorem lp50_ok : LpsOk 0 C50 [] lp50 fn50.loops := by
  refine .all (by kernel_rfl) ?_
  simp only [lp50, List.forall_mem_cons, List.not_mem_nil, false_imp_iff, implies_true, and_true]
  refine .pat q50 R50 (fun v => (v.1.1.1.length - v.1.2.2.1).toNat) ?_
  rintro ⟨⟨⟨(L : List Item), (n : Int)⟩, (p : ByteArray), (k : Int), ⟨⟩⟩, ⟨⟩⟩ ih
  refine Gives.run (t' := .ite (decide (k < (((List.length L) : Nat) : Int))) (.need (inR k (List.length L)) (.ite (decide (((List.getD L (Int.toNat k) (ByteArray.empty, (false, (0 : Int))))).1 = p)) (.ret (.rt, ⟨26, [(4, rI k)], []⟩)) (.need (decide (((-(9223372036854775808 : Int) : Int) ≤ (k + (1 : Int) : Int)) ∧ ((k + (1 : Int) : Int) ≤ (9223372036854775807 : Int)))) (.ret (.nx, ⟨26, [(0, .e (.c (.dp [.sl tItem L, .v (.int .i64 n)]))), (1, rS p), (5, rI (k + (1 : Int) : Int))], []⟩))))) (.ret (.ex 0, ⟨26, [], []⟩))) (by kernel_rfl) ?_
  refine .rnd fun ⟨h1, h2, h3⟩ => ?_
  have h2 : k ≤ L.length := h2
  have h3 : L.length ≤ 1000000 := h3
  show Gives _ (.ite (decide (0 ≤ atK p (L.drop k.toNat) k)) (.ret (Ex.rt, (⟨26, [(4, rI (atK p (L.drop k.toNat) k))], []⟩ : St))) (.ret (Ex.ex 0, (⟨26, [], []⟩ : St))))
  refine .lif (fun hk => ?_) (fun hk => ?_)
  · have e : (k + 1).toNat = k.toNat + 1 := by omega
    rw [drop_at L k.toNat (ByteArray.empty, false, 0) (by omega)]
    refine .lneed (inR_of h1 (by omega)) ?_
    generalize L.getD k.toNat (ByteArray.empty, false, 0) = x
    refine .lite (fun hx => ?_) (fun hx => ?_)
    · rw [show atK p (x :: L.drop (k.toNat + 1)) k = k by rw [atK, if_pos hx]]
      exact .rtt (decide_eq_true h1) (.refl _)
    · rw [show atK p (x :: L.drop (k.toNat + 1)) k = atK p (L.drop (k.toNat + 1)) (k + 1) by rw [atK, if_neg (by rw [hx]; exact Bool.false_ne_true)]]
      refine .lnd (by omega) ?_
      refine Gives.next (σ' := q50.st (((L, n), p, k + 1, ()), ())) (by kernel_rfl) ((ih (((L, n), p, k + 1, ()), ()) (by simp only; omega)).trans ?_)
      refine .nd ⟨by omega, by show k + 1 ≤ L.length; omega, h3⟩ ?_
      show Gives (.ite (decide (0 ≤ atK p (L.drop (k + 1).toNat) (k + 1))) (.ret (Ex.rt, (⟨26, [(4, rI (atK p (L.drop (k + 1).toNat) (k + 1)))], []⟩ : St))) (.ret (Ex.ex 0, (⟨26, [], []⟩ : St)))) _
      rw [e]; exact .refl _
  · rw [List.drop_eq_nil_of_le (by omega)]
    exact .rff rfl (.refl _)
theorem atK_ge (p : ByteArray) : ∀ (l : List Item) (k : Int), atK p l k = -1 ∨ k ≤ atK p l k
  | [], k => .inl rfl
  | x :: r, k => by
    rw [atK]
    split
    · exact .inr (Int.le_refl _)
    · rcases atK_ge p r (k + 1) with h | h
      · exact .inl h
      · exact .inr (by omega)
def atCtr : Ctr := ctr (two (aPtr tRT) aS) fun a => .need (decide (a.1.1.length ≤ 1000000)) (ans (rI (atK a.2.1 a.1.1 0)))
theorem at_ok : CtrOk Tryz.prog 50 atCtr := by
  refine .mk C50_ok mixed (q := fn50) (.of Tryz.func50 (by kernel_rfl)) lp50_ok (by decide) ?_
  rintro ⟨⟨(L : List Item), (n : Int)⟩, (p : ByteArray), ⟨⟩⟩ -
  refine Gives.of_eq (t' := .need (decide (((0 : Int) ≤ (0 : Int)) ∧ (((0 : Int) ≤ (((List.length L) : Nat) : Int)) ∧ ((List.length L) ≤ 1000000)))) (.ite (decide ((0 : Int) ≤ (atK p (List.drop 0 L) (0 : Int)))) (.ret (rI (atK p (List.drop 0 L) (0 : Int)), ⟨0, [], []⟩)) (.ret (rI (-(1 : Int) : Int), ⟨0, [], []⟩)))) (by kernel_rfl) ?_
  show Gives _ (.need (decide (L.length ≤ 1000000)) (.ret (rI (atK p L 0), (⟨0, [], []⟩ : St))))
  refine .rnd fun h => ?_
  rw [List.drop_zero]
  have hg := atK_ge p L 0
  refine .nd ⟨by omega, by omega, h⟩ (.if_ (fun hk => ?_) (fun hk => ?_))
  · exact .refl _
  · rw [show atK p L 0 = -1 by omega]; exact .refl _
end Go.Proofs.YtdngaaploooceaaGreatDoor.Sy

/- Plain laws: entries are a tree by its keys just if they are one by its rows. -/
set_option maxRecDepth 100000
namespace Go.Proofs.YtdngaaploooceaaGreatDoor.Sy
open Go.RowKit Kit Go.Proofs
/-- may this stand behind those? -/
def itemBad (L : List Item) (x : Ent) : Bool :=
  !nameF x.1 || decide (0 ≤ atK x.1 L 0) || (!isE (splitF x.1).1 && (x.2.1 || decide (atK (splitF x.1).1 L 0 < 0) || !(L.getD (atK (splitF x.1).1 L 0).toNat (ByteArray.empty, false, 0)).2.1))
def itemsF : List Item → Int → List Ent → Option (List Item)
  | L, _, [] => some L
  | L, k, x :: r => if itemBad L x then none else itemsF (L ++ [(x.1, x.2.1, k)]) (k + 1) r
theorem beqT_refl (x : Key) : beqT tKey x x = true := by
  obtain ⟨a, b⟩ := x
  show (decide (a = a) && decide (b = b)) = true
  simp
theorem lookV_app {kt : Ty} {β : Type} (x : kt.El) (p : kt.El × β) : ∀ l : List (kt.El × β), lookV kt x (l ++ [p]) = match lookV kt x l with | some y => some y | none => if beqT kt x p.1 then some p.2 else none
  | [] => by
    simp only [List.nil_append, lookV]
    cases beqT kt x p.1 <;> rfl
  | q :: l => by
    simp only [List.cons_append, lookV]
    cases beqT kt x q.1 with
    | true => rfl
    | false => exact lookV_app x p l
/-- the row of a path -/
def lookI' (p : ByteArray) : List Item → Option (Int × Bool)
  | [] => none
  | x :: r => if x.1 = p then some (x.2.2, x.2.1) else lookI' p r
theorem lookI'_app (p : ByteArray) (x : Item) : ∀ l, lookI' p (l ++ [x]) = match lookI' p l with | some y => some y | none => if x.1 = p then some (x.2.2, x.2.1) else none
  | [] => by simp only [List.nil_append, lookI']
  | y :: l => by
    simp only [List.cons_append, lookI']
    by_cases h : y.1 = p
    · rw [if_pos h, if_pos h]
    · rw [if_neg h, if_neg h]; exact lookI'_app p x l
theorem atK_look (p : ByteArray) : ∀ (l : List Item) (k : Int), 0 ≤ k → match lookI' p l with | none => atK p l k = -1 | some y => k ≤ atK p l k ∧ (l.getD (atK p l k - k).toNat (ByteArray.empty, false, 0)).2 = (y.2, y.1)
  | [], k, _ => rfl
  | x :: r, k, hk => by
    rw [lookI', atK]
    by_cases h : x.1 = p
    · rw [if_pos h, if_pos (decide_eq_true h)]
      refine ⟨Int.le_refl _, ?_⟩
      rw [Int.sub_self]; rfl
    · rw [if_neg h, if_neg (by simpa using h)]
      have ih := atK_look p r (k + 1) (by omega)
      cases hl : lookI' p r with
      | none => rw [hl] at ih; exact ih
      | some y =>
        rw [hl] at ih
        obtain ⟨i1, i2⟩ := ih
        refine ⟨by omega, ?_⟩
        rw [show (atK p r (k + 1) - k).toNat = (atK p r (k + 1) - (k + 1)).toNat + 1 by omega]
        exact i2
theorem atK_none {p : ByteArray} {l : List Item} : (0 ≤ atK p l 0) ↔ (lookI' p l).isSome = true := by
  have := atK_look p l 0 (Int.le_refl _)
  cases h : lookI' p l with
  | none => rw [h] at this; simp only at this; simp [this]
  | some y => rw [h] at this; simp only at this; simp [this.1]
theorem atK_dir {p : ByteArray} {l : List Item} {y : Int × Bool} (h : lookI' p l = some y) : (l.getD (atK p l 0).toNat (ByteArray.empty, false, 0)).2.1 = y.2 := by
  have := atK_look p l 0 (Int.le_refl _)
  rw [h] at this
  simp only [Int.sub_zero] at this
  rw [this.2]
/-! ### names, cut and joined -/
def joinF (k : Key) : ByteArray := if isE k.1 then k.2 else k.1 ++ slash ++ k.2
theorem partF_ne {s : ByteArray} (h : partF s = true) : s ≠ ByteArray.empty := fun e => by
  rw [badP_part, show badP s = true by unfold badP; rw [decide_eq_true e]; rfl] at h
  simp at h
theorem cut_join {s : ByteArray} (h : (cut2 s).2.2 = true) : (cut2 s).1 ++ slash ++ (cut2 s).2.1 = s := by
  unfold cut2 at h ⊢
  split at h
  · rename_i hk
    rw [if_pos hk]
    obtain ⟨k, hk⟩ : ∃ k : Nat, stroke s = k := ⟨(stroke s).toNat, by omega⟩
    obtain ⟨g1, -⟩ := stroke_some hk
    have hkl : k < (strB s).length := (List.getElem?_eq_some_iff.1 g1).1
    have e47 : (strB s)[k]'hkl = 47 := by
      rw [List.getElem?_eq_getElem hkl] at g1
      exact Option.some.inj g1
    have hs := strB_length s
    rw [hk, Int.toNat_natCast]
    dsimp only
    rw [extract_txt, extract_txt, List.drop_zero, List.take_of_length_le (l := strB s) (i := s.size) (by omega), show slash = txt [47] by decide +kernel, ← txt_app, ← txt_app]
    rw [List.append_assoc, List.singleton_append, ← e47, ← List.drop_eq_getElem_cons hkl, List.take_append_drop, txt_strB]
  · cases h
theorem split_join {p : ByteArray} (h : nameF p = true) : joinF (splitF p) = p := by
  unfold splitF
  rw [if_pos h]
  unfold nameF at h
  simp only [Bool.and_eq_true, decide_eq_true_eq] at h
  by_cases hc : (cut2 p).2.2 = true
  · rw [if_pos hc]
    unfold joinF isE
    rw [if_neg (by simpa using partF_ne h.1.2)]
    exact cut_join hc
  · rw [if_neg hc]
    unfold joinF isE
    rw [if_pos (decide_eq_true rfl)]
    unfold cut2 at hc ⊢
    split at hc
    · exact absurd rfl hc
    · rename_i hk; rw [if_neg hk]
theorem split_inj {p q : ByteArray} (hp : nameF p = true) (hq : nameF q = true) (h : splitF p = splitF q) : p = q := by
  rw [← split_join hp, ← split_join hq, h]
theorem split_last {p : ByteArray} (h : nameF p = true) : (splitF p).2 ≠ ByteArray.empty := by
  unfold splitF
  rw [if_pos h]
  unfold nameF at h
  simp only [Bool.and_eq_true, decide_eq_true_eq] at h
  by_cases hc : (cut2 p).2.2 = true
  · rw [if_pos hc]
    rw [hc] at h
    exact partF_ne (by simpa using h.2)
  · rw [if_neg hc]
    exact partF_ne h.1.2
/-- a directory's name is a name of one part -/
theorem split_dir {p : ByteArray} (h : nameF p = true) (hd : (splitF p).1 ≠ ByteArray.empty) : nameF (splitF p).1 = true ∧ splitF (splitF p).1 = (ByteArray.empty, (splitF p).1) := by
  have h0 := h
  unfold nameF at h
  simp only [Bool.and_eq_true, decide_eq_true_eq] at h
  have hsz := (cut2_size p).1
  have e : (splitF p).1 = (cut2 p).1 := by
    unfold splitF at hd ⊢
    rw [if_pos h0] at hd ⊢
    by_cases hc : (cut2 p).2.2 = true
    · rw [if_pos hc]
    · rw [if_neg hc] at hd; exact absurd rfl hd
  rw [e]
  generalize (cut2 p).1 = d at h hsz
  have hl : (strB d).all letter = true := by
    have := h.1.2
    rw [badP_part, Bool.and_eq_true] at this
    exact this.1
  have hst : ¬ 0 ≤ stroke d := fun hk => by
    obtain ⟨k, hk⟩ : ∃ k : Nat, stroke d = k := ⟨(stroke d).toNat, by omega⟩
    obtain ⟨g1, -⟩ := stroke_some hk
    have hkl : k < (strB d).length := (List.getElem?_eq_some_iff.1 g1).1
    rw [List.getElem?_eq_getElem hkl] at g1
    exact letter_47 (List.all_eq_true.1 hl _ (List.getElem_mem hkl)) (Option.some.inj g1)
  have hc : cut2 d = (d, ByteArray.empty, false) := by unfold cut2; rw [if_neg hst]
  have hn : nameF d = true := by
    unfold nameF
    rw [hc, decide_eq_true (show d.size ≤ 8 by omega)]
    dsimp only
    rw [h.1.2]; rfl
  refine ⟨hn, ?_⟩
  unfold splitF
  rw [if_pos hn, hc]; rfl
/-! ### both trees -/
def Both (m : TMap) (L : List Item) : Prop := m.length = L.length ∧ ∀ p, nameF p = true → lookV tKey (β := Int × Bool) (splitF p) m = lookI' p L
theorem both_nil : Both [] [] := ⟨rfl, fun _ _ => rfl⟩
theorem above_both {m : TMap} {L : List Item} (hb : Both m L) {p : ByteArray} (h : nameF p = true) : aboveF m (splitF p) = 0 ↔ (isE (splitF p).1 = true ∨ ∃ y, lookI' (splitF p).1 L = some y ∧ y.2 = true) := by
  unfold aboveF
  rw [if_neg (by unfold isE; simpa using split_last h)]
  by_cases he : isE (splitF p).1 = true
  · rw [if_pos he]; exact ⟨fun _ => .inl he, fun _ => rfl⟩
  · rw [if_neg he]
    have hne : (splitF p).1 ≠ ByteArray.empty := by unfold isE at he; simpa using he
    obtain ⟨h1, h2⟩ := split_dir h hne
    have hl := hb.2 _ h1
    rw [h2] at hl
    rw [hl]
    cases hk : lookI' (splitF p).1 L with
    | none =>
      refine ⟨fun e => (by cases e), fun e => ?_⟩
      rcases e with e | ⟨y, e, _⟩
      · exact absurd e he
      · cases e
    | some y =>
      obtain ⟨i, b⟩ := y
      cases b with
      | true => exact ⟨fun _ => .inr ⟨_, rfl, rfl⟩, fun _ => rfl⟩
      | false =>
        refine ⟨fun e => (by cases e), fun e => ?_⟩
        rcases e with e | ⟨y, e, h'⟩
        · exact absurd e he
        · cases e; cases h'
theorem mk_both {m : TMap} {L : List Item} (hb : Both m L) {nx : Int} {x : Ent} (hl : m.length < 8) (hn : nameF x.1 = true) :
    (itemBad L x = true → ((mkF m nx x.1 x.2.1).1.2 != 0) = true) ∧ (itemBad L x = false → (mkF m nx x.1 x.2.1).1.2 = 0 ∧ (mkF m nx x.1 x.2.1).2.2 = nx + 1 ∧ Both (mkF m nx x.1 x.2.1).2.1 (L ++ [(x.1, x.2.1, nx)])) := by
  obtain ⟨p, d, c⟩ := x
  dsimp only at hn ⊢
  have ha := above_both hb hn
  have hk := hb.2 p hn
  have hs : itemBad L (p, d, c) = ((lookI' p L).isSome || (!isE (splitF p).1 && (d || !(lookI' (splitF p).1 L).isSome || !((lookI' (splitF p).1 L).getD (0, false)).2))) := by
    unfold itemBad
    dsimp only
    have e1 : decide (0 ≤ atK p L 0) = (lookI' p L).isSome := by
      rw [Bool.eq_iff_iff, decide_eq_true_iff]; exact atK_none
    have e2 : decide (atK (splitF p).1 L 0 < 0) = !(lookI' (splitF p).1 L).isSome := by
      have := atK_none (p := (splitF p).1) (l := L)
      rw [Bool.eq_iff_iff, decide_eq_true_iff, Bool.not_eq_true', ← Bool.not_eq_true, ← this]; omega
    rw [hn, e1, e2]
    cases hx : lookI' (splitF p).1 L with
    | none => simp
    | some y =>
      rw [atK_dir hx]; simp
  rw [hs]
  unfold mkF
  by_cases h0 : aboveF m (splitF p) = 0
  · rw [if_neg (by simpa using h0), hk]
    have h0' := ha.1 h0
    cases hlk : lookI' p L with
    | some y => exact ⟨fun _ => rfl, fun e => by simp at e⟩
    | none =>
      rw [if_neg (by simp)]
      rcases h0' with he | ⟨y, hy, hyd⟩
      · rw [he, if_neg (by simp), if_neg (by omega)]
        refine ⟨fun e => by simp at e, fun _ => ⟨rfl, rfl, ?_⟩⟩
        rw [hlk] at hk
        dsimp only
        rw [setV_none hk]
        refine ⟨by simp [hb.1], fun q hq => ?_⟩
        rw [lookV_app, lookI'_app, hb.2 q hq]
        cases lookI' q L with
        | some z => rfl
        | none =>
          dsimp only
          by_cases hpq : p = q
          · subst hpq; rw [if_pos (beqT_refl _), if_pos rfl]
          · rw [if_neg (fun e => hpq (split_inj hq hn (beqT_eq e)).symm), if_neg hpq]
      · by_cases he : isE (splitF p).1 = true
        · rw [he, if_neg (by simp), if_neg (by omega)]
          refine ⟨fun e => by simp at e, fun _ => ⟨rfl, rfl, ?_⟩⟩
          rw [hlk] at hk
          dsimp only
          rw [setV_none hk]
          refine ⟨by simp [hb.1], fun q hq => ?_⟩
          rw [lookV_app, lookI'_app, hb.2 q hq]
          cases lookI' q L with
          | some z => rfl
          | none =>
            dsimp only
            by_cases hpq : p = q
            · subst hpq; rw [if_pos (beqT_refl _), if_pos rfl]
            · rw [if_neg (fun e => hpq (split_inj hq hn (beqT_eq e)).symm), if_neg hpq]
        · have he : isE (splitF p).1 = false := by simpa using he
          rw [he, hy]
          cases d with
          | true => exact ⟨fun _ => rfl, fun e => by simp at e⟩
          | false =>
            rw [if_neg (by simp), if_neg (by omega)]
            refine ⟨fun e => by simp [hyd] at e, fun _ => ⟨rfl, rfl, ?_⟩⟩
            rw [hlk] at hk
            dsimp only
            rw [setV_none hk]
            refine ⟨by simp [hb.1], fun q hq => ?_⟩
            rw [lookV_app, lookI'_app, hb.2 q hq]
            cases lookI' q L with
            | some z => rfl
            | none =>
              dsimp only
              by_cases hpq : p = q
              · subst hpq; rw [if_pos (beqT_refl _), if_pos rfl]
              · rw [if_neg (fun e => hpq (split_inj hq hn (beqT_eq e)).symm), if_neg hpq]
  · rw [if_pos (by simpa using h0)]
    refine ⟨fun _ => by simpa using h0, fun e => ?_⟩
    exfalso
    rw [ha, not_or] at h0
    obtain ⟨g1, g2⟩ := h0
    have g1 : isE (splitF p).1 = false := by simpa using g1
    rw [g1] at e
    cases hx : lookI' (splitF p).1 L with
    | none => rw [hx] at e; simp at e
    | some y =>
      rw [hx] at e
      have : y.2 = true := by simp at e; exact e.2.2
      exact g2 ⟨y, hx, this⟩
theorem trees_both : ∀ (E : List Ent) (m : TMap) (L : List Item) (nx : Int), Both m L → m.length + E.length ≤ 8 → (treeF m nx E).isSome = (itemsF L nx E).isSome
  | [], m, L, nx, _, _ => rfl
  | x :: r, m, L, nx, hb, hl => by
    rw [List.length_cons] at hl
    rw [treeF, itemsF]
    cases hn : nameF x.1 with
    | false =>
      have : itemBad L x = true := by unfold itemBad; rw [hn]; rfl
      rw [this]; rfl
    | true =>
      rw [if_neg (by simp)]
      obtain ⟨h1, h2⟩ := mk_both hb (nx := nx) (by omega) hn
      cases hi : itemBad L x with
      | true => rw [if_pos (h1 hi)]; rfl
      | false =>
        obtain ⟨g1, g2, g3⟩ := h2 hi
        rw [g1, g2, if_neg (by simp), if_neg (by simp)]
        exact trees_both r _ _ _ g3 (by have := g3.1; rw [this, List.length_append, List.length_singleton, ← hb.1]; omega)
def treeOkR (E : List Ent) : Bool := decide (E.length ≤ 8) && (itemsF [] 0 E).isSome
theorem treeOkR_eq (E : List Ent) : treeOkR E = treeOk E := by
  unfold treeOkR treeOk
  by_cases h : E.length ≤ 8
  · rw [trees_both E [] [] 0 both_nil (by simpa using h)]
  · rw [decide_eq_false h]; rfl
end Go.Proofs.YtdngaaploooceaaGreatDoor.Sy

/- Contracts: the document's trees, of entries. -/
set_option maxRecDepth 100000
namespace Go.Proofs.YtdngaaploooceaaGreatDoor.Sy
open Go.RowKit Kit Go.Proofs
noncomputable def fn26 := mkFn Tryz.f26
def C26 : Cx := ⟨T, FL, [(49, nameCtr), (51, splitCtr), (50, atCtr)], [], [9, FA, GK]⟩
theorem C26_ok : CxOk Tryz.prog C26 := ⟨T_ok, FL_ok, .cons rname0_ok (.cons rsplit_ok (.cons at_ok (.nil _))), .nil _⟩
abbrev CB26 : Nat := 1000009000
def nr26 : List NR := [⟨CB26, tItem, 112⟩]
def q26 : Frm := ⟨100, [(0, .dat (.sl tEnt)), (4, .np 9 0), (5, .dat tI)], [(9, .cells 106 [.row CB26, .dat tI]), (CB26, .row tItem 112)]⟩
def R26 : q26.V → Tr (Ex × St) := fun v =>
  .need (decide (0 ≤ v.1.2.2.1 ∧ v.1.2.2.1 ≤ v.1.1.length ∧ v.1.1.length ≤ 8 ∧ v.2.2.1.length ≤ v.1.2.2.1)) (.ite (itemsF v.2.2.1 v.1.2.2.1 (v.1.1.drop v.1.2.2.1.toNat)).isNone (.ret (.rt, ⟨100, [(2, .e (.c (.nilp))), (3, rI 11)], []⟩))
    (.ret (.ex 0, ⟨100, [(0, rL tEnt v.1.1), (4, .e (.c (.np 9 0)))], [(9, .cells 106 [.row CB26, .d (.v (.int .i64 v.2.1.2.1))]), (CB26, .row tItem 112 ((itemsF v.2.2.1 v.1.2.2.1 (v.1.1.drop v.1.2.2.1.toNat)).getD []))]⟩)))
def lp26 : LP := [(0, sumP q26 R26)]
theorem atK_le (p : ByteArray) : ∀ (l : List Item) (k : Int), 0 ≤ atK p l k → atK p l k < k + l.length
  | [], k, h => by rw [atK] at h; omega
  | x :: r, k, h => by
    rw [atK] at h ⊢
    split
    · rw [List.length_cons]; omega
    · rename_i hc
      rw [if_neg hc] at h
      have := atK_le p r (k + 1) h
      rw [List.length_cons]; omega
set_option maxHeartbeats 8000000 in
theorem lp26_ok : LpsOk 0 C26 nr26 lp26 fn26.loops := by
  refine .all (by kernel_rfl) ?_
  simp only [lp26, List.forall_mem_cons, List.not_mem_nil, false_imp_iff, implies_true, and_true]
  refine .pat q26 R26 (fun v => (v.1.1.length - v.1.2.2.1).toNat) ?_
  rintro ⟨⟨(E : List Ent), ⟨⟩, (k : Int), ⟨⟩⟩, ⟨⟨⟩, (n : Int), ⟨⟩⟩, (L : List Item), ⟨⟩⟩ ih
  refine Gives.run (t' := .ite (decide (k < (((List.length E) : Nat) : Int))) (.need (inR k (List.length E)) (.ite (!(nameF ((List.getD E (Int.toNat k) (ByteArray.empty, (false, (0 : Int))))).1)) (.ret (.rt, ⟨100, [(2, .e (.c (.nilp))), (3, rI (11 : Int))], []⟩)) (.need (inR k (List.length E)) (.need (decide ((List.length L) ≤ 1000000)) (.ite (decide ((0 : Int) ≤ (atK ((List.getD E (Int.toNat k) (ByteArray.empty, (false, (0 : Int))))).1 L (0 : Int)))) (.ret (.rt, ⟨100, [(2, .e (.c (.nilp))), (3, rI (11 : Int))], []⟩)) (.need (inR k (List.length E)) (.ite (!(decide (((splitF ((List.getD E (Int.toNat k) (ByteArray.empty, (false, (0 : Int))))).1)).1 = (ByteArray.mk (List.toArray ([] : List UInt8)))))) (.need (inR k (List.length E)) (.ite (((List.getD E (Int.toNat k) (ByteArray.empty, (false, (0 : Int))))).2).1 (.ret (.rt, ⟨100, [(2, .e (.c (.nilp))), (3, rI (11 : Int))], []⟩)) (.need (decide ((List.length L) ≤ 1000000)) (.ite (decide ((atK ((splitF ((List.getD E (Int.toNat k) (ByteArray.empty, (false, (0 : Int))))).1)).1 L (0 : Int)) < (0 : Int))) (.ret (.rt, ⟨100, [(2, .e (.c (.nilp))), (3, rI (11 : Int))], []⟩)) (.need (decide ((List.length L) ≤ 1000000)) (.need (inR (atK ((splitF ((List.getD E (Int.toNat k) (ByteArray.empty, (false, (0 : Int))))).1)).1 L (0 : Int)) (List.length L)) (.need (decide ((Int.toNat (atK ((splitF ((List.getD E (Int.toNat k) (ByteArray.empty, (false, (0 : Int))))).1)).1 L (0 : Int))) < (List.length L))) (.ite (!(((List.getD L (Int.toNat (atK ((splitF ((List.getD E (Int.toNat k) (ByteArray.empty, (false, (0 : Int))))).1)).1 L (0 : Int))) (ByteArray.empty, (false, (0 : Int))))).2).1) (.ret (.rt, ⟨100, [(2, .e (.c (.nilp))), (3, rI (11 : Int))], []⟩)) (.need (inR k (List.length E)) (.need (inR k (List.length E)) (.need true (.need (decide ((((List.length L) + (List.length [(((List.getD E (Int.toNat k) (ByteArray.empty, (false, (0 : Int))))).1, ((((List.getD E (Int.toNat k) (ByteArray.empty, (false, (0 : Int))))).2).1, k))]) : Nat) * (Lay.bytes L112) : Nat) ≤ 140737488355328)) (.need (decide (((-(9223372036854775808 : Int) : Int) ≤ (k + (1 : Int) : Int)) ∧ ((k + (1 : Int) : Int) ≤ (9223372036854775807 : Int)))) (.ret (.nx, ⟨100, [(0, rL tEnt E), (4, .e (.c (.np 9 0))), (5, rI (k + (1 : Int) : Int))], [(9, .cells 106 [.row 91, .d (.v (.int .i64 n))]), (91, .row tItem 112 (L ++ [(((List.getD E (Int.toNat k) (ByteArray.empty, (false, (0 : Int))))).1, ((((List.getD E (Int.toNat k) (ByteArray.empty, (false, (0 : Int))))).2).1, k))]))]⟩))))))))))))))) (.need (inR k (List.length E)) (.need (inR k (List.length E)) (.need true (.need (decide ((((List.length L) + (List.length [(((List.getD E (Int.toNat k) (ByteArray.empty, (false, (0 : Int))))).1, ((((List.getD E (Int.toNat k) (ByteArray.empty, (false, (0 : Int))))).2).1, k))]) : Nat) * (Lay.bytes L112) : Nat) ≤ 140737488355328)) (.need (decide (((-(9223372036854775808 : Int) : Int) ≤ (k + (1 : Int) : Int)) ∧ ((k + (1 : Int) : Int) ≤ (9223372036854775807 : Int)))) (.ret (.nx, ⟨100, [(0, rL tEnt E), (4, .e (.c (.np 9 0))), (5, rI (k + (1 : Int) : Int))], [(9, .cells 106 [.row 91, .d (.v (.int .i64 n))]), (91, .row tItem 112 (L ++ [(((List.getD E (Int.toNat k) (ByteArray.empty, (false, (0 : Int))))).1, ((((List.getD E (Int.toNat k) (ByteArray.empty, (false, (0 : Int))))).2).1, k))]))]⟩)))))))))))))) (.ret (.ex 0, ⟨100, [(0, rL tEnt E), (4, .e (.c (.np 9 0)))], [(9, .cells 106 [.row 1000009000, .d (.v (.int .i64 n))]), (1000009000, .row tItem 112 L)]⟩))) (by kernel_rfl) ?_
  refine .rnd fun ⟨h1, h2, h3, h4⟩ => ?_
  have h1 : 0 ≤ k := h1
  have h2 : k ≤ E.length := h2
  have h3 : E.length ≤ 8 := h3
  have h4 : (L.length : Int) ≤ k := h4
  show Gives _ (.ite (itemsF L k (E.drop k.toNat)).isNone (.ret (Ex.rt, (⟨100, [(2, .e (.c (.nilp))), (3, rI 11)], []⟩ : St))) (.ret (Ex.ex 0, (⟨100, [(0, rL tEnt E), (4, .e (.c (.np 9 0)))], [(9, .cells 106 [.row CB26, .d (.v (.int .i64 n))]), (CB26, .row tItem 112 ((itemsF L k (E.drop k.toNat)).getD []))]⟩ : St))))
  refine .lif (fun hk => ?_) (fun hk => ?_)
  · have e : (k + 1).toNat = k.toNat + 1 := by omega
    rw [drop_at E k.toNat (ByteArray.empty, false, 0) (by omega)]
    have hr : inR k E.length = true := inR_of h1 (by omega)
    refine .lneed hr ?_
    generalize E.getD k.toNat (ByteArray.empty, false, 0) = x
    obtain ⟨p, d, c⟩ := x
    have bad : itemBad L (p, d, c) = true → (itemsF L k ((p, d, c) :: E.drop (k.toNat + 1))).isNone = true := fun h => by rw [itemsF, if_pos h]; rfl
    have good : itemBad L (p, d, c) = false → Gives ((Tr.need (inR k (List.length E)) (.need (inR k (List.length E)) (.need true (.need (decide ((((List.length L) + (List.length [(p, d, k)]) : Nat) * (Lay.bytes L112) : Nat) ≤ 140737488355328)) (.need (decide (((-(9223372036854775808 : Int) : Int) ≤ (k + (1 : Int) : Int)) ∧ ((k + (1 : Int) : Int) ≤ (9223372036854775807 : Int)))) (.ret (Ex.nx, (⟨100, [(0, rL tEnt E), (4, .e (.c (.np 9 0))), (5, rI (k + (1 : Int) : Int))], [(9, .cells 106 [.row 91, .d (.v (.int .i64 n))]), (91, .row tItem 112 (L ++ [(p, d, k)]))]⟩ : St)))))))).bind (again (E.length - k).toNat ((fn26.at 0).f 0 C26 nr26 lp26) ((fn26.at 0).h nr26)))
        (.ite (itemsF L k ((p, d, c) :: E.drop (k.toNat + 1))).isNone (.ret (Ex.rt, (⟨100, [(2, .e (.c (.nilp))), (3, rI 11)], []⟩ : St))) (.ret (Ex.ex 0, (⟨100, [(0, rL tEnt E), (4, .e (.c (.np 9 0)))], [(9, .cells 106 [.row CB26, .d (.v (.int .i64 n))]), (CB26, .row tItem 112 ((itemsF L k ((p, d, c) :: E.drop (k.toNat + 1))).getD []))]⟩ : St)))) := fun hg => by
      refine .lneed hr (.lneed hr (.lneed rfl (.lnd (by show (L.length + 1) * 32 ≤ _; omega) (.lnd (by omega) ?_))))
      refine Gives.next (σ' := q26.st ((E, (), k + 1, ()), (((), n, ()), L ++ [(p, d, k)], ()))) (by kernel_rfl) ((ih ((E, (), k + 1, ()), (((), n, ()), L ++ [(p, d, k)], ())) (by show (E.length - (k + 1) : Int).toNat < (E.length - k : Int).toNat; omega)).trans ?_)
      refine .nd ⟨by show 0 ≤ k + 1; omega, by show k + 1 ≤ (E.length : Int); omega, h3, by show ((L ++ [(p, d, k)]).length : Int) ≤ k + 1; rw [List.length_append, List.length_singleton]; omega⟩ ?_
      rw [itemsF, if_neg (by rw [hg]; exact Bool.false_ne_true), ← e]
      exact .refl _
    have bd : itemBad L (p, d, c) = (!nameF p || decide (0 ≤ atK p L 0) || (!isE (splitF p).1 && (d || decide (atK (splitF p).1 L 0 < 0) || !(L.getD (atK (splitF p).1 L 0).toNat (ByteArray.empty, false, 0)).2.1))) := rfl
    refine .lite (fun hx => ?_) (fun hx => ?_)
    · exact .rtt (bad (by rw [bd, show (!nameF p) = true from hx]; rfl)) (.refl _)
    refine .lneed hr (.lnd (by omega) (.lite (fun hy => ?_) (fun hy => ?_)))
    · exact .rtt (bad (by rw [bd, show decide (0 ≤ atK p L 0) = true from hy]; simp)) (.refl _)
    have b2 : itemBad L (p, d, c) = (!isE (splitF p).1 && (d || decide (atK (splitF p).1 L 0 < 0) || !(L.getD (atK (splitF p).1 L 0).toNat (ByteArray.empty, false, 0)).2.1)) := by
      rw [bd, show (!nameF p) = false from hx, show decide (0 ≤ atK p L 0) = false from hy]; rfl
    refine .lneed hr (.lite (fun hz => ?_) (fun hz => ?_))
    · have hz : (!isE (splitF p).1) = true := hz
      rw [hz, Bool.true_and] at b2
      refine .lneed hr (.lite (fun hd => ?_) (fun hd => ?_))
      · exact .rtt (bad (by rw [b2, show d = true from hd]; rfl)) (.refl _)
      have hd : d = false := hd
      have b3 : itemBad L (p, d, c) = (decide (atK (splitF p).1 L 0 < 0) || !(L.getD (atK (splitF p).1 L 0).toNat (ByteArray.empty, false, 0)).2.1) := by rw [b2, hd]; rfl
      clear b2
      have b2 := b3
      clear b3
      refine .lnd (by omega) (.lite (fun hn => ?_) (fun hn => ?_))
      · exact .rtt (bad (by rw [b2, show decide (atK (splitF p).1 L 0 < 0) = true from hn]; rfl)) (.refl _)
      have hn : decide (atK (splitF p).1 L 0 < 0) = false := hn
      rw [hn, Bool.false_or] at b2
      have hge : 0 ≤ atK (splitF p).1 L 0 := by have := of_decide_eq_false hn; omega
      have hle : atK (splitF p).1 L 0 < 0 + L.length := atK_le (splitF p).1 L 0 hge
      have hle' : (atK (splitF p).1 L 0).toNat < L.length := by omega
      refine .lnd (by omega) (.lneed (inR_of (k := atK (splitF p).1 L 0) hge (by omega)) (.lneed (decide_eq_true hle') (.lite (fun hq => ?_) (fun hq => ?_))))
      · exact .rtt (bad (by rw [b2]; exact hq)) (.refl _)
      · exact good (by rw [b2]; exact hq)
    · exact good (by rw [b2, show (!isE (splitF p).1) = false from hz]; rfl)
  · rw [List.drop_eq_nil_of_le (by omega)]
    exact .rff rfl (.refl _)
def rnewCtr : Ctr := ctr (one (aVal (.sl tEnt))) fun a => .ret (.tup [.c .any, eI (treeErr a.1)], [])
set_option maxHeartbeats 2000000 in
theorem rnew_ok : CtrOk Tryz.prog 26 rnewCtr := by
  refine CtrOk.lessC (F := fun a => .ite (decide (8 < a.1.length)) (.ret (.tup [.c .nilp, eI 11], []))
    (.ite (itemsF [] 0 a.1).isNone (.ret (.tup [.c .nilp, eI 11], [])) (.ret (.tup [.c (.np 9 0), eI 0], [(9, .cells 106 [.row CB26, .d (.v (.int .i64 a.1.length))]), (CB26, .row tItem 112 ((itemsF [] 0 a.1).getD []))])))) ?_ ?_
  · refine .mk C26_ok mixed (q := fn26) (.of Tryz.func26 (by kernel_rfl)) lp26_ok (by decide) ?_
    rintro ⟨(E : List Ent), ⟨⟩⟩ -
    refine Gives.of_eq (t' := .ite (decide ((8 : Int) < (((List.length E) : Nat) : Int))) (.ret (.tup [.c (.nilp), .c (.d (.v (.int .i64 (11 : Int))))], ⟨0, [], []⟩)) (.need (decide (((0 : Int) ≤ (0 : Int)) ∧ (((0 : Int) ≤ (((List.length E) : Nat) : Int)) ∧ (((List.length E) ≤ 8) ∧ ((((List.length ([] : List (Prod ByteArray (Prod Bool Int)))) : Nat) : Int) ≤ (0 : Int)))))) (.ite (Option.isNone (itemsF ([] : List (Prod ByteArray (Prod Bool Int))) (0 : Int) (List.drop 0 E))) (.ret (.tup [.c (.nilp), .c (.d (.v (.int .i64 (11 : Int))))], ⟨0, [], []⟩)) (.ret (.tup [.c (.np 9 0), .c (.d (.v (.int .i64 (0 : Int))))], ⟨0, [], [(9, .cells 106 [.row 1000009000, .d (.v (.int .i64 (((List.length E) : Nat) : Int)))]), (1000009000, .row tItem 112 (Option.getD (itemsF ([] : List (Prod ByteArray (Prod Bool Int))) (0 : Int) (List.drop 0 E)) ([] : List (Prod ByteArray (Prod Bool Int)))))]⟩))))) (by kernel_rfl) ?_
    refine .if_ (fun h => ?_) (fun h => ?_)
    · exact .rtt (decide_eq_true (show 8 < E.length by omega)) (.refl _)
    refine .rff (decide_eq_false (show ¬ 8 < E.length by omega)) (.nd ⟨by omega, by omega, by omega, by simp⟩ (.ites (fun _ => ?_) (fun _ => ?_)))
    · exact .refl _
    · exact .refl _
  · rintro ⟨(E : List Ent), ⟨⟩⟩
    have hl : ∀ {x : SV × St} {e : Int} {y : EV}, x.1 = .tup [y, eI e] → x.2.n = 0 → x.2.env = [] → Less x (SV.tup [.c .any, eI e], ⟨0, [], []⟩) := fun h1 h2 h3 =>
      ⟨fun M β v hv => by rw [h1] at hv; obtain ⟨vs, e, h⟩ := hv; exact ⟨vs, e, h.any1⟩, h2.symm, h3.symm, fun _ _ h => by cases h⟩
    show LessT _ (.ret (SV.tup [.c .any, eI (treeErr E)], ⟨0, [], []⟩))
    have hk := treeOkR_eq E
    unfold treeOkR at hk
    refine .ite (fun h => ?_) (fun h => .ite (fun h' => ?_) (fun h' => ?_))
    · rw [show treeErr E = 11 by unfold treeErr; rw [← hk, decide_eq_false (by simpa using h)]; rfl]
      exact .ret (hl rfl rfl rfl)
    · rw [show treeErr E = 11 by unfold treeErr; rw [← hk, show (itemsF [] 0 E).isSome = false by simpa using h', Bool.and_false]; rfl]
      exact .ret (hl rfl rfl rfl)
    · rw [show treeErr E = 0 by unfold treeErr; rw [← hk, show (itemsF [] 0 E).isSome = true by simpa [Option.isSome_iff_ne_none] using h', decide_eq_true (by simpa using h)]; rfl]
      exact .ret (hl rfl rfl rfl)
end Go.Proofs.YtdngaaploooceaaGreatDoor.Sy
