/- Contracts: image.Read. -/
import Derived.Test.YtdngaaploooceaaGreatDoorM5
set_option maxRecDepth 100000
namespace Go.Proofs.YtdngaaploooceaaGreatDoor.Sy
open Go.RowKit Kit Go.Proofs
/-! ### bytes that are bytes -/
theorem w8_u8 (n : Int) : u8 (w8 n) = true := u8_iff.2 (u8_wrap n)
theorem hi8_u8 (n : Int) : u8 (hi8 n) = true := u8_iff.2 (u8_wrap _)
theorem u8s_flat {α : Type} {f : α → List Int} {l : List α} (h : ∀ x ∈ l, u8s (f x) = true) : u8s (l.flatMap f) = true := by
  induction l with
  | nil => rfl
  | cons x r ih => rw [List.flatMap_cons, u8s_app, h x (List.mem_cons_self ..), ih fun y hy => h y (List.mem_cons_of_mem _ hy)]; rfl
theorem u8s_cons {x : Int} {l : List Int} (h : u8 x = true) (hl : u8s l = true) : u8s (x :: l) = true := by
  show (u8 x && u8s l) = true; rw [h, hl]; rfl
theorem pBytes_u8 (p : Prog) : u8s (pBytes p) = true := by
  unfold pBytes
  rw [u8s_app, u8s_app, u8s_app]
  rw [u8s_flat (f := nameB) fun s _ => u8s_cons (w8_u8 _) (u8s_strB s), u8s_flat (f := instB) fun i _ => u8s_cons (w8_u8 _) (u8s_cons (hi8_u8 _) (u8s_cons (w8_u8 _) rfl))]
  rw [u8s_cons (x := 88) rfl (u8s_cons (x := 82) rfl (u8s_cons (w8_u8 p.2.length) rfl)), u8s_cons (w8_u8 p.1.length) rfl]; rfl
theorem twoF_u8 (n : Int) : u8s (twoF n) = true := u8s_cons (hi8_u8 n) (u8s_cons (w8_u8 n) rfl)
theorem truth_u8 (b : Bool) : u8 (truth b) = true := by cases b <;> rfl
theorem kindF_u8 (c : Cls) : u8s (kindF c) = true := by
  unfold kindF
  rw [u8s_app, u8s_app, twoF_u8, u8s_cons (w8_u8 _) (u8s_cons (w8_u8 _) rfl)]
  have : u8s ((capsC c).map w8) = true := List.all_eq_true.2 fun x hx => by obtain ⟨y, _, rfl⟩ := List.mem_map.1 hx; exact w8_u8 y
  rw [this]; rfl
theorem traceF_u8 (t : Trc) : u8s (traceF t) = true := by
  unfold traceF
  rw [u8s_app, u8s_app, twoF_u8, u8s_flat (f := evB) fun e _ => u8s_cons (truth_u8 _) (twoF_u8 _), u8s_cons (w8_u8 _) rfl]; rfl
theorem fileB_u8 {f : File} (h : u8s f.2.2 = true) : u8s (fileB f) = true := by
  unfold fileB padF
  rw [u8s_app, u8s_app, headF_u8, h, u8s_rep]; rfl
theorem arcF_u8 {l : List File} (h : ∀ f ∈ l, u8s f.2.2 = true) : u8s (arcF l) = true := by
  unfold arcF
  rw [u8s_app, u8s_flat fun f hf => fileB_u8 (h f hf), u8s_rep]; rfl
theorem treeFs_u8 : ∀ (t : List Ent) (fs : List (List Int)), (∀ b ∈ fs, u8s b = true) → ∀ f ∈ treeFs t fs, u8s f.2.2 = true
  | [], _, _, f, hf => by cases hf
  | x :: r, fs, h, f, hf => by
    rw [treeFs_cons] at hf
    split at hf
    · rcases List.mem_cons.1 hf with rfl | hf
      · rfl
      · exact treeFs_u8 r fs h f hf
    · rcases List.mem_cons.1 hf with rfl | hf
      · cases fs with
        | nil => rfl
        | cons b bs' => exact h b (List.mem_cons_self ..)
      · refine treeFs_u8 r fs.tail (fun b hb => h b (List.mem_of_mem_tail hb)) f hf
theorem argFs_u8 : ∀ (l : List (List Int)) (k : Int), (∀ b ∈ l, u8s b = true) → ∀ f ∈ argFs k l, u8s f.2.2 = true
  | [], _, _, f, hf => by cases hf
  | x :: r, k, h, f, hf => by
    rcases List.mem_cons.1 hf with rfl | hf
    · exact h x (List.mem_cons_self ..)
    · exact argFs_u8 r (k + 1) (fun b hb => h b (List.mem_cons_of_mem _ hb)) f hf
/-- an image's texts are bytes -/
def imgU (m : Img) : Bool := m.2.2.1.1.all u8s && m.2.2.1.2.1.all u8s
theorem imgFs_u8 {m : Img} (h : imgU m = true) : ∀ f ∈ imgFs m, u8s f.2.2 = true := by
  simp only [imgU, Bool.and_eq_true] at h
  intro f hf
  unfold imgFs filesF at hf
  rcases List.mem_append.1 hf with hf | hf
  · rcases List.mem_cons.1 hf with rfl | hf
    · exact pBytes_u8 _
    · rcases List.mem_append.1 hf with hf | hf
      · exact treeFs_u8 _ _ (fun b hb => List.all_eq_true.1 h.1 b hb) f hf
      · exact argFs_u8 _ _ (fun b hb => List.all_eq_true.1 h.2 b hb) f hf
  · simp only [List.mem_cons, List.not_mem_nil, or_false] at hf
    rcases hf with rfl | rfl | rfl
    · exact List.all_eq_true.2 fun x hx => by obtain ⟨y, _, rfl⟩ := List.mem_map.1 hx; exact truth_u8 y
    · exact kindF_u8 _
    · exact traceF_u8 _
theorem writeB_u8 {m : Img} (h : imgU m = true) : u8s (writeB m) = true := arcF_u8 (imgFs_u8 h)
theorem foldF_u8 : ∀ (L : List File) (a : Acc), (∀ f ∈ L, u8s f.2.2 = true) → (∀ b ∈ a.2.2.1, u8s b = true) ∧ (∀ b ∈ a.2.2.2, u8s b = true) → (∀ b ∈ (L.foldl addF a).2.2.1, u8s b = true) ∧ (∀ b ∈ (L.foldl addF a).2.2.2, u8s b = true)
  | [], a, _, ha => ha
  | f :: r, a, h, ha => by
    rw [List.foldl_cons]
    refine foldF_u8 r _ (fun g hg => h g (List.mem_cons_of_mem _ hg)) ?_
    have hf := h f (List.mem_cons_self ..)
    unfold addF
    split
    · split
      · exact ha
      · exact ⟨fun b hb => by rcases List.mem_append.1 hb with hb | hb; exact ha.1 b hb; rw [List.mem_singleton.1 hb]; exact hf, ha.2⟩
    · exact ⟨ha.1, fun b hb => by rcases List.mem_append.1 hb with hb | hb; exact ha.2 b hb; rw [List.mem_singleton.1 hb]; exact hf⟩
theorem made2_u8 {l : List File} (h : madeOk l = true) : imgU (made2 l) = true := by
  have hm : ∀ f ∈ mids l, u8s f.2.2 = true := fun f hf => by
    simp only [madeOk, Bool.and_eq_true] at h
    have := List.all_eq_true.1 h.2 f (List.mem_of_mem_take (List.mem_of_mem_drop hf))
    simp only [Bool.and_eq_true] at this
    exact this.1.2
  have := foldF_u8 (mids l) ([], [], [], []) hm ⟨fun b hb => (by cases hb), fun b hb => (by cases hb)⟩
  unfold imgU made2 accF
  rw [Bool.and_eq_true]
  exact ⟨List.all_eq_true.2 this.1, List.all_eq_true.2 this.2⟩
theorem madeF_u8 {l : List File} (h : madeOk l = true) : imgU (madeF l).2 = true := by
  unfold madeF
  split
  · rfl
  · exact made2_u8 h
/-- what is read of bytes may be made an image -/
theorem oneE_zero {h r : List Int} (he : oneE h r = 0) : tMay [oneFl h r] = 0 ∧ headF (oneFl h r) = h := by
  unfold oneE at he
  split at he
  · cases he
  split at he
  · cases he
  split at he
  · cases he
  · rename_i hx
    rw [not_or, not_or, Classical.not_not, Classical.not_not] at hx
    exact ⟨hx.1, hx.2.1⟩
theorem oneF'_ok {h r : List Int} (hr : u8s r = true) : (decide ((oneF' h r).1.size ≤ 1000000000) && u8s (oneF' h r).2.2 && decide ((oneF' h r).2.2.length ≤ 1000000000)) = true := by
  unfold oneF'
  split
  · rename_i he
    have h1 := (tMay_zero (oneE_zero he).1).2.2.2.2
    have h2 := of_decide_eq_true (List.all_eq_true.1 h1 _ (List.mem_singleton.2 rfl))
    rw [decide_eq_true (by have := h2.1; omega), decide_eq_true (by have := h2.2; omega)]
    show (true && u8s (r.take _) && true) = true
    rw [u8s_take hr]; rfl
  · rfl
theorem rdL_ok : ∀ (n : Nat) (b : List Int), u8s b = true → ((rdL n b).2.1.all fun f => decide (f.1.size ≤ 1000000000) && u8s f.2.2 && decide (f.2.2.length ≤ 1000000000)) = true ∧ (rdL n b).2.1.length ≤ b.length
  | 0, _, _ => ⟨rfl, Nat.zero_le _⟩
  | n + 1, b, hb => by
    rw [rdL]
    split
    · exact ⟨rfl, Nat.zero_le _⟩
    split
    · exact ⟨rfl, Nat.zero_le _⟩
    split
    · exact ⟨rfl, Nat.zero_le _⟩
    · have ih := rdL_ok n (oneR (b.take 512) (b.drop 512)) (oneR_u8 (u8s_drop hb 512))
      have hl := oneR_len (b.take 512) (b.drop 512)
      rw [List.length_drop] at hl
      refine ⟨?_, by simp only [List.length_cons]; omega⟩
      rw [List.all_cons, oneF'_ok (u8s_drop hb 512), ih.1]; rfl
theorem readT_ok {b : List Int} (hb : u8s b = true) : ((readT b).2.all fun f => decide (f.1.size ≤ 1000000000) && u8s f.2.2 && decide (f.2.2.length ≤ 1000000000)) = true ∧ (readT b).2.length ≤ 1000000 := by
  have h := rdL_ok b.length b hb
  unfold readT
  split
  · exact ⟨rfl, Nat.zero_le _⟩
  split
  · exact ⟨rfl, Nat.zero_le _⟩
  · rename_i hx
    rw [not_or, not_or] at hx
    exact ⟨h.1, by show (rdL b.length b).2.1.length ≤ _; omega⟩
theorem readT_made {b : List Int} (hb : u8s b = true) : madeOk (readT b).2 = true := by
  have h := readT_ok hb
  unfold madeOk
  rw [h.1, decide_eq_true h.2]; rfl

/-! ### image.Read -/
def readI (b : List Int) : Int × Img :=
  if (readT b).1 ≠ 0 then ((readT b).1, zeroImg)
  else if (madeF (readT b).2).1 = false then (4, zeroImg)
  else if writeE (madeF (readT b).2).2 ≠ 0 ∨ ¬ writeB (madeF (readT b).2).2 = b then (4, zeroImg) else (0, (madeF (readT b).2).2)
noncomputable def fn12 := mkFn Tryz.f12
noncomputable def C12 : Cx := ⟨T, FL, [(29, tReadCtr), (30, madeCtr), (8, writeCtr), (31, equalCtr)], [], []⟩
theorem C12_ok : CxOk Tryz.prog C12 := ⟨T_ok, FL_ok, .cons tRead_ok (.cons made_ok (.cons write_ok (.cons equal_ok (.nil _)))), .nil _⟩
def readCtr : Ctr := ctr (one (aVal tB)) fun a => .need (decide (u8s a.1 = true ∧ a.1.length ≤ 1000000000)) (.ret (.tup [eImg (readI a.1).2, eI (readI a.1).1], []))
set_option maxHeartbeats 4000000 in
theorem read0_ok : CtrOk Tryz.prog 12 (ctr (one (aVal tB)) fun a => .need (decide (u8s a.1 = true ∧ a.1.length ≤ 1000000000)) (.ite ((readI a.1).1 != 0) (.ret (.tup [zeroA, eI (readI a.1).1], [])) (.ret (.tup [eImg (readI a.1).2, eI 0], [])))) := by
  refine .mk C12_ok mixed (q := fn12) (.of Tryz.func12 (by kernel_rfl)) (N := 0) (nr := []) .none (by decide) ?_
  rintro ⟨(b : List Int), ⟨⟩⟩ -
  show Gives _ (.need _ (.ite ((readI b).1 != 0) (.ret (SV.tup [zeroA, eI (readI b).1], (⟨0, [], []⟩ : St))) (.ret (SV.tup [eImg (readI b).2, eI 0], (⟨0, [], []⟩ : St)))))
  refine .rnd fun ⟨h1, h2⟩ => ?_
  have h1 : u8s b = true := h1
  have h2 : b.length ≤ 1000000000 := h2
  refine Gives.of_eq (t' := .need (decide (((u8s b) = true) ∧ ((List.length b) ≤ 1000000000))) (.ite (((readT b)).1 != (0 : Int)) (.need true (.ret (.tup [.agg [.nil, .nil, .nil, .nil, .d (.v (.int .i64 (0 : Int))), .d (.v (.int .i64 (0 : Int))), .d (.v (.int .i64 (0 : Int))), .nil, .nil, .nil, .nil, .d (.v (.int .i64 (0 : Int))), .d (.v (.int .u16 (0 : Int)))], .c (.d (.v (.int .i64 ((readT b)).1)))], ⟨0, [], []⟩))) (.need (madeOk ((readT b)).2) (.ite (!((madeF ((readT b)).2)).1) (.need true (.ret (.tup [.agg [.nil, .nil, .nil, .nil, .d (.v (.int .i64 (0 : Int))), .d (.v (.int .i64 (0 : Int))), .d (.v (.int .i64 (0 : Int))), .nil, .nil, .nil, .nil, .d (.v (.int .i64 (0 : Int))), .d (.v (.int .u16 (0 : Int)))], .c (.d (.v (.int .i64 (4 : Int))))], ⟨0, [], []⟩))) (.need true (.ite ((writeE ((madeF ((readT b)).2)).2) != (0 : Int)) (.ite ((writeE ((madeF ((readT b)).2)).2) != (0 : Int)) (.need true (.ret (.tup [.agg [.nil, .nil, .nil, .nil, .d (.v (.int .i64 (0 : Int))), .d (.v (.int .i64 (0 : Int))), .d (.v (.int .i64 (0 : Int))), .nil, .nil, .nil, .nil, .d (.v (.int .i64 (0 : Int))), .d (.v (.int .u16 (0 : Int)))], .c (.d (.v (.int .i64 (4 : Int))))], ⟨0, [], []⟩))) (.need ((u8s ([] : List Int)) && (u8s b)) (.ite (!(([] : List Int) == b)) (.need true (.ret (.tup [.agg [.nil, .nil, .nil, .nil, .d (.v (.int .i64 (0 : Int))), .d (.v (.int .i64 (0 : Int))), .d (.v (.int .i64 (0 : Int))), .nil, .nil, .nil, .nil, .d (.v (.int .i64 (0 : Int))), .d (.v (.int .u16 (0 : Int)))], .c (.d (.v (.int .i64 (4 : Int))))], ⟨0, [], []⟩))) (.need true (.need true (.ret (.tup [.agg [.d (.sl tInst ((((madeF ((readT b)).2)).2).1).1), .d (.sl Ty.str ((((madeF ((readT b)).2)).2).1).2), .d (.sl tEnt (((((madeF ((readT b)).2)).2).2).1).1), .d (.sl tI ((((((madeF ((readT b)).2)).2).2).1).2).1), .d (.v (.int .i64 (((((((madeF ((readT b)).2)).2).2).1).2).2).1)), .d (.v (.int .i64 ((((((((madeF ((readT b)).2)).2).2).1).2).2).2).1)), .d (.v (.int .i64 ((((((((madeF ((readT b)).2)).2).2).1).2).2).2).2)), .d (.sl tB ((((((madeF ((readT b)).2)).2).2).2).1).1), .d (.sl tB (((((((madeF ((readT b)).2)).2).2).2).1).2).1), .d (.sl Ty.bool (((((((madeF ((readT b)).2)).2).2).2).1).2).2), .d (.sl tEv ((((((madeF ((readT b)).2)).2).2).2).2).1), .d (.v (.int .i64 (((((((madeF ((readT b)).2)).2).2).2).2).2).1)), .d (.v (.int .u16 (((((((madeF ((readT b)).2)).2).2).2).2).2).2))], .c (.d (.v (.int .i64 (0 : Int))))], ⟨0, [], []⟩))))))) (.ite false (.need true (.ret (.tup [.agg [.nil, .nil, .nil, .nil, .d (.v (.int .i64 (0 : Int))), .d (.v (.int .i64 (0 : Int))), .d (.v (.int .i64 (0 : Int))), .nil, .nil, .nil, .nil, .d (.v (.int .i64 (0 : Int))), .d (.v (.int .u16 (0 : Int)))], .c (.d (.v (.int .i64 (4 : Int))))], ⟨0, [], []⟩))) (.need ((u8s (writeB ((madeF ((readT b)).2)).2)) && (u8s b)) (.ite (!((writeB ((madeF ((readT b)).2)).2) == b)) (.need true (.ret (.tup [.agg [.nil, .nil, .nil, .nil, .d (.v (.int .i64 (0 : Int))), .d (.v (.int .i64 (0 : Int))), .d (.v (.int .i64 (0 : Int))), .nil, .nil, .nil, .nil, .d (.v (.int .i64 (0 : Int))), .d (.v (.int .u16 (0 : Int)))], .c (.d (.v (.int .i64 (4 : Int))))], ⟨0, [], []⟩))) (.need true (.need true (.ret (.tup [.agg [.d (.sl tInst ((((madeF ((readT b)).2)).2).1).1), .d (.sl Ty.str ((((madeF ((readT b)).2)).2).1).2), .d (.sl tEnt (((((madeF ((readT b)).2)).2).2).1).1), .d (.sl tI ((((((madeF ((readT b)).2)).2).2).1).2).1), .d (.v (.int .i64 (((((((madeF ((readT b)).2)).2).2).1).2).2).1)), .d (.v (.int .i64 ((((((((madeF ((readT b)).2)).2).2).1).2).2).2).1)), .d (.v (.int .i64 ((((((((madeF ((readT b)).2)).2).2).1).2).2).2).2)), .d (.sl tB ((((((madeF ((readT b)).2)).2).2).2).1).1), .d (.sl tB (((((((madeF ((readT b)).2)).2).2).2).1).2).1), .d (.sl Ty.bool (((((((madeF ((readT b)).2)).2).2).2).1).2).2), .d (.sl tEv ((((((madeF ((readT b)).2)).2).2).2).2).1), .d (.v (.int .i64 (((((((madeF ((readT b)).2)).2).2).2).2).2).1)), .d (.v (.int .u16 (((((((madeF ((readT b)).2)).2).2).2).2).2).2))], .c (.d (.v (.int .i64 (0 : Int))))], ⟨0, [], []⟩))))))))))))) (by kernel_rfl) ?_
  refine .nd ⟨h1, h2⟩ ?_
  unfold readI
  refine .ite (fun h => ?_) (fun h => ?_)
  · rw [if_pos (bne_iff_ne.1 h)]; exact .need rfl (.rtt h (.refl _))
  rw [if_neg (by have := bne_eq_false_iff_eq.1 h; exact fun h' => h' this)]
  have hmo := readT_made h1
  have hu := writeB_u8 (madeF_u8 hmo)
  generalize readT b = R at hmo hu ⊢
  obtain ⟨Re, Rl⟩ := R
  have hmo : madeOk Rl = true := hmo
  dsimp only at hu ⊢
  refine .need hmo ?_
  clear hmo
  generalize madeF Rl = m at hu ⊢
  obtain ⟨mk, m⟩ := m
  dsimp only at hu ⊢
  refine .ite (fun h => ?_) (fun h => ?_)
  · rw [if_pos (by rw [← Bool.not_eq_true']; exact h)]; exact .need rfl (.rtt rfl (.refl _))
  rw [if_neg (by rw [show mk = true by rw [← Bool.not_eq_false']; exact h]; simp)]
  refine .need rfl (.ite (fun h => ?_) (fun h => ?_))
  · rw [if_pos (.inl (bne_iff_ne.1 h))]
    exact .tt h (.need rfl (.rtt rfl (.refl _)))
  have hw : writeE m = 0 := bne_eq_false_iff_eq.1 h
  refine .ff rfl (.need (by rw [hu, h1]; rfl) (.ite (fun h' => ?_) (fun h' => ?_)))
  · rw [if_pos (.inr (by simpa using h'))]; exact .need rfl (.rtt rfl (.refl _))
  · rw [if_neg (by rw [not_or, Classical.not_not, Classical.not_not]; exact ⟨hw, by simpa using h'⟩)]
    exact .need rfl (.need rfl (.rff rfl (.refl _)))
theorem read_ok : CtrOk Tryz.prog 12 readCtr := by
  refine CtrOk.lessC read0_ok ?_
  rintro ⟨(b : List Int), ⟨⟩⟩
  show LessT _ (.need _ (.ret (SV.tup [eImg (readI b).2, eI (readI b).1], (⟨0, [], []⟩ : St))))
  refine .rneed fun h => .need h (.ite (fun hz => ?_) (fun hz => ?_))
  · have hz : ¬ (readI b).1 = 0 := bne_iff_ne.1 hz
    have : (readI b).2 = zeroImg := by
      unfold readI at hz ⊢
      split
      · rfl
      split
      · rfl
      split
      · rfl
      · rename_i h1 h2 h3; rw [if_neg h1, if_neg h2, if_neg h3] at hz; exact absurd rfl hz
    rw [this]
    exact .ret (Less.tup1 fun M β v hv => zero_img hv)
  · have hz : (readI b).1 = 0 := bne_eq_false_iff_eq.1 hz
    rw [hz]; exact .ret (.refl _)
end Go.Proofs.YtdngaaploooceaaGreatDoor.Sy

/- Contracts: what is not great. -/
set_option maxRecDepth 100000
namespace Go.Proofs.YtdngaaploooceaaGreatDoor.Sy
open Go.RowKit Kit Go.Proofs

def addW {α : Type} (f : α → Int) : List α → Int → Int
  | [], n => n
  | x :: l, n => addW f l (IntKind.wrap .i64 (n + f x))
noncomputable def fn17 := mkFn Tryz.f17
def C17 : Cx := ⟨T, [], [], [], [WR]⟩
theorem C17_ok : CxOk Tryz.prog C17 := ⟨T_ok, .nil _, .nil _, .nil _⟩
def q17 : Frm := ⟨34, [(1, .ptr tProg), (3, .dat tI), (4, .dat tI)], []⟩
def R17 : q17.V → Tr (Ex × St) := fun (((p : tProg.El), (n : Int), (k : Int), _), _) =>
  .need (decide (0 ≤ k ∧ k ≤ p.2.length ∧ (p.2.length : Int) ≤ 9223372036854775807)) (.ret (.ex 0, ⟨34, [(1, .e (.c (.dp (split tProg p)))), (3, rI (addW (fun s : ByteArray => (s.size : Int)) (p.2.drop k.toNat) n))], []⟩))
def lp17 : LP := [(0, sumP q17 R17)]
theorem lp17_ok : LpsOk 0 C17 [] lp17 fn17.loops := by
  refine .all (by kernel_rfl) ?_
  simp only [lp17, List.forall_mem_cons, List.not_mem_nil, false_imp_iff, implies_true, and_true]
  refine .pat q17 R17 (fun v => (v.1.1.2.length - v.1.2.2.1).toNat) ?_
  rintro ⟨⟨⟨(pL : List (Int × Int)), (pN : List ByteArray)⟩, (n : Int), (k : Int), ⟨⟩⟩, ⟨⟩⟩ ih
  refine Gives.run (t' := .ite (decide (k < (((List.length pN) : Nat) : Int))) (.need (inR k (List.length pN)) (.ret (.nx, ⟨34, [(1, .e (.c (.dp [.sl tInst pL, .sl Ty.str pN]))), (3, rI (IntKind.wrap IntKind.i64 (n + (((ByteArray.size (List.getD pN (Int.toNat k) ByteArray.empty)) : Nat) : Int) : Int))), (4, rI (IntKind.wrap IntKind.i64 (k + (1 : Int) : Int)))], []⟩))) (.ret (.ex 0, ⟨34, [(1, .e (.c (.dp [.sl tInst pL, .sl Ty.str pN]))), (3, rI n)], []⟩))) (by kernel_rfl) ?_
  refine .rnd fun ⟨h1, h2, h3⟩ => ?_
  have h2 : k ≤ pN.length := h2
  have h3 : (pN.length : Int) ≤ 9223372036854775807 := h3
  refine .lif (fun hk => ?_) (fun hk => ?_)
  · have e : (k + 1).toNat = k.toNat + 1 := by omega
    refine .lneed (inR_of h1 (by omega)) ?_
    rw [wrap_i64 (n := k + 1) (by omega)]
    refine Gives.next (σ' := q17.st (((pL, pN), IntKind.wrap .i64 (n + ((pN.getD k.toNat ByteArray.empty).size : Int)), k + 1, ()), ())) (by kernel_rfl) ((ih _ (by simp only; omega)).trans ?_)
    refine .nd ⟨by omega, by show k + 1 ≤ pN.length; omega, h3⟩ ?_
    rw [e, drop_at pN k.toNat ByteArray.empty (by omega)]
    exact .refl _
  · rw [List.drop_eq_nil_of_le (by show pN.length ≤ _; omega)]
    exact .refl _
def small10 (p : List (Int × Int) × List ByteArray) : Bool :=
  decide ((p.1.length : Int) ≤ 500) && (decide ((p.2.length : Int) ≤ 100) && decide (addW (fun s : ByteArray => (s.size : Int)) p.2 0 ≤ 5000))
theorem small10_ok : CtrOk Tryz.prog 17 (ctr (one (aAgg tProg)) fun a => ans (rB (small10 a.1))) := by
  refine .mk C17_ok mixed (q := fn17) (.of Tryz.func17 (by kernel_rfl)) lp17_ok (by decide) ?_
  rintro ⟨⟨(L : List (Int × Int)), (N : List ByteArray)⟩, ⟨⟩⟩ hb
  have hN : N.length ≤ 9223372036854775807 := hb.1.2.1
  have hL : L.length ≤ 9223372036854775807 := hb.1.1.1
  refine Gives.of_eq (t' := .need (decide (((0 : Int) ≤ (0 : Int)) ∧ (((0 : Int) ≤ (((List.length N) : Nat) : Int)) ∧ ((((List.length N) : Nat) : Int) ≤ (9223372036854775807 : Int))))) (.ite (decide ((((List.length L) : Nat) : Int) ≤ (500 : Int))) (.ite (decide ((((List.length N) : Nat) : Int) ≤ (100 : Int))) (.ret (rB (decide ((addW (fun s => (((ByteArray.size s) : Nat) : Int)) (List.drop 0 N) (0 : Int)) ≤ (5000 : Int))), ⟨0, [], []⟩)) (.ret (rB false, ⟨0, [], []⟩))) (.ret (rB false, ⟨0, [], []⟩)))) (by kernel_rfl) ?_
  refine .nd ⟨by omega, by omega, by omega⟩ ?_
  show Gives _ (.ret (rB (small10 (L, N)), St.nil))
  unfold small10
  refine .ite (fun h => ?_) (fun h => ?_)
  · refine .ite (fun h' => ?_) (fun h' => ?_)
    · dsimp only; rw [h, h']; exact .refl _
    · dsimp only; rw [h, h']; exact .refl _
  · dsimp only; rw [h]; exact .refl _
noncomputable def fn18 := mkFn Tryz.f18
def q18 : Frm := ⟨35, [(1, .ptr tCls), (3, .dat tI), (4, .dat tI)], []⟩
def R18 : q18.V → Tr (Ex × St) := fun (((p : tCls.El), (n : Int), (k : Int), _), _) =>
  .need (decide (0 ≤ k ∧ k ≤ p.1.length ∧ (p.1.length : Int) ≤ 9223372036854775807)) (.ret (.ex 0, ⟨35, [(1, .e (.c (.dp (split tCls p)))), (3, rI (addW (fun s : Ent => (s.1.size : Int)) (p.1.drop k.toNat) n))], []⟩))
def lp18 : LP := [(0, sumP q18 R18)]
theorem lp18_ok : LpsOk 0 C17 [] lp18 fn18.loops := by
  refine .all (by kernel_rfl) ?_
  simp only [lp18, List.forall_mem_cons, List.not_mem_nil, false_imp_iff, implies_true, and_true]
  refine .pat q18 R18 (fun v => (v.1.1.1.length - v.1.2.2.1).toNat) ?_
  rintro ⟨⟨⟨(pT : List Ent), (pA : List Int), (c1 : Int), (c2 : Int), (c3 : Int)⟩, (n : Int), (k : Int), ⟨⟩⟩, ⟨⟩⟩ ih
  refine Gives.run (t' := .ite (decide (k < (((List.length pT) : Nat) : Int))) (.need (inR k (List.length pT)) (.ret (.nx, ⟨35, [(1, .e (.c (.dp [.sl tEnt pT, .sl tI pA, .v (.int .i64 c1), .v (.int .i64 c2), .v (.int .i64 c3)]))), (3, rI (IntKind.wrap IntKind.i64 (n + (((ByteArray.size ((List.getD pT (Int.toNat k) (ByteArray.empty, (false, (0 : Int))))).1) : Nat) : Int) : Int))), (4, rI (IntKind.wrap IntKind.i64 (k + (1 : Int) : Int)))], []⟩))) (.ret (.ex 0, ⟨35, [(1, .e (.c (.dp [.sl tEnt pT, .sl tI pA, .v (.int .i64 c1), .v (.int .i64 c2), .v (.int .i64 c3)]))), (3, rI n)], []⟩))) (by kernel_rfl) ?_
  refine .rnd fun ⟨h1, h2, h3⟩ => ?_
  have h2 : k ≤ pT.length := h2
  have h3 : (pT.length : Int) ≤ 9223372036854775807 := h3
  refine .lif (fun hk => ?_) (fun hk => ?_)
  · have e : (k + 1).toNat = k.toNat + 1 := by omega
    refine .lneed (inR_of h1 (by omega)) ?_
    rw [wrap_i64 (n := k + 1) (by omega)]
    refine Gives.next (σ' := q18.st (((pT, pA, c1, c2, c3), IntKind.wrap .i64 (n + ((pT.getD k.toNat (ByteArray.empty, false, 0)).1.size : Int)), k + 1, ()), ())) (by kernel_rfl) ((ih _ (by simp only; omega)).trans ?_)
    refine .nd ⟨by omega, by show k + 1 ≤ pT.length; omega, h3⟩ ?_
    rw [e, drop_at pT k.toNat (ByteArray.empty, false, 0) (by omega)]
    exact .refl _
  · rw [List.drop_eq_nil_of_le (by show pT.length ≤ _; omega)]
    exact .refl _
def small17 (c : Cls) : Bool :=
  decide ((c.1.length : Int) ≤ 60) && (decide (addW (fun s : Ent => (s.1.size : Int)) c.1 0 ≤ 2000) && decide ((c.2.1.length : Int) ≤ 60))
theorem small17_ok : CtrOk Tryz.prog 18 (ctr (one (aAgg tCls)) fun a => ans (rB (small17 a.1))) := by
  refine .mk C17_ok mixed (q := fn18) (.of Tryz.func18 (by kernel_rfl)) lp18_ok (by decide) ?_
  rintro ⟨⟨(pT : List Ent), (pA : List Int), (c1 : Int), (c2 : Int), (c3 : Int)⟩, ⟨⟩⟩ hb
  have hN : pT.length ≤ 9223372036854775807 := hb.1.1.1
  have hL : pA.length ≤ 9223372036854775807 := hb.1.2.1.1
  refine Gives.of_eq (t' := .need (decide (((0 : Int) ≤ (0 : Int)) ∧ (((0 : Int) ≤ (((List.length pT) : Nat) : Int)) ∧ ((((List.length pT) : Nat) : Int) ≤ (9223372036854775807 : Int))))) (.ite (decide ((((List.length pT) : Nat) : Int) ≤ (60 : Int))) (.ite (decide ((addW (fun s => (((ByteArray.size (s).1) : Nat) : Int)) (List.drop 0 pT) (0 : Int)) ≤ (2000 : Int))) (.ret (rB (decide ((((List.length pA) : Nat) : Int) ≤ (60 : Int))), ⟨0, [], []⟩)) (.ret (rB false, ⟨0, [], []⟩))) (.ret (rB false, ⟨0, [], []⟩)))) (by kernel_rfl) ?_
  refine .nd ⟨by omega, by omega, by omega⟩ ?_
  show Gives _ (.ret (rB (small17 (pT, pA, c1, c2, c3)), St.nil))
  unfold small17
  refine .ite (fun h => ?_) (fun h => ?_)
  · refine .ite (fun h' => ?_) (fun h' => ?_)
    · have h' : decide (addW (fun s : Ent => (s.1.size : Int)) pT 0 ≤ 2000) = true := h'
      dsimp only; rw [h, h']; exact .refl _
    · have h' : decide (addW (fun s : Ent => (s.1.size : Int)) pT 0 ≤ 2000) = false := h'
      dsimp only; rw [h, h']; exact .refl _
  · dsimp only; rw [h]; exact .refl _
/-! ### rows of bytes -/
noncomputable def fn34 := mkFn Tryz.f34
def C34 : Cx := ⟨T, [], [], [], []⟩
theorem C34_ok : CxOk Tryz.prog C34 := ⟨T_ok, .nil _, .nil _, .nil _⟩
abbrev tDeed : Ty := .pair tI (.pair (.int .u16) (.pair (.int .u16) (.pair tB (.pair .str .str))))
def q34a : Frm := ⟨78, [(0, .dat (.sl tEnt)), (1, .dat (.sl tB)), (2, .dat (.sl tDeed)), (7, .dat tI)], []⟩
def R34a : q34a.V → Tr (Ex × St) := fun (((l : List Ent), (f : List (List Int)), (d : (Ty.sl tDeed).El), (k : Int), _), _) =>
  .need (decide (d.length = 0 ∧ k = 0)) (.ret (.ex 0, ⟨78, [(0, rL tEnt l), (1, rL tB f)], []⟩))
def q34b : Frm := ⟨78, [(0, .dat (.sl tEnt)), (1, .dat (.sl tB)), (8, .dat tI)], []⟩
def big14 (f : List (List Int)) (k : Int) : Bool := (decide (101 < f.length) || (f.drop k.toNat).any fun b => decide (1000 < b.length))
def R34b : q34b.V → Tr (Ex × St) := fun (((l : List Ent), (f : List (List Int)), (k : Int), _), _) =>
  .need (decide (0 ≤ k ∧ k ≤ f.length ∧ k ≤ 101 ∧ (f.length : Int) ≤ 9223372036854775807)) (.ite (big14 f k) (.ret (.rt, ⟨78, [(6, .e (.c (.kb false)))], []⟩)) (.ret (.ex 2, ⟨78, [(0, rL tEnt l)], []⟩)))
def q34c : Frm := ⟨78, [(0, .dat (.sl tEnt)), (9, .dat tI)], []⟩
def R34c : q34c.V → Tr (Ex × St) := fun (((l : List Ent), (k : Int), _), _) =>
  .need (decide (l.length = 0 ∧ k = 0)) (.ret (.ex 4, ⟨78, [], []⟩))
def lp34 : LP := [(0, sumP q34a R34a), (2, sumP q34b R34b), (4, sumP q34c R34c)]
theorem lp34_ok : LpsOk 0 C34 [] lp34 fn34.loops := by
  refine .all (by kernel_rfl) ?_
  simp only [lp34, List.forall_mem_cons, List.not_mem_nil, false_imp_iff, implies_true, and_true]
  refine ⟨?_, ?_, ?_⟩
  · refine .pat q34a R34a (fun v => 0) ?_
    rintro ⟨⟨(l : List Ent), (f : List (List Int)), (d : (Ty.sl tDeed).El), (k : Int), ⟨⟩⟩, ⟨⟩⟩ ih
    refine Gives.run (t' := .ite (decide (k < (((List.length d) : Nat) : Int))) (.ite (decide ((150 : Int) < k)) (.ret (.rt, ⟨78, [(6, .e (.c (.kb false)))], []⟩)) (.need (inR k (List.length d)) (.ite (decide ((100 : Int) < (((List.length (((((List.getD d (Int.toNat k) ((0 : Int), ((0 : Int), ((0 : Int), (([] : List Int), (ByteArray.empty, ByteArray.empty))))))).2).2).2).1) : Nat) : Int))) (.ret (.rt, ⟨78, [(6, .e (.c (.kb false)))], []⟩)) (.need (inR k (List.length d)) (.ite (decide ((100 : Int) < (((ByteArray.size ((((((List.getD d (Int.toNat k) ((0 : Int), ((0 : Int), ((0 : Int), (([] : List Int), (ByteArray.empty, ByteArray.empty))))))).2).2).2).2).1) : Nat) : Int))) (.ret (.rt, ⟨78, [(6, .e (.c (.kb false)))], []⟩)) (.need (inR k (List.length d)) (.ite (decide ((100 : Int) < (((ByteArray.size ((((((List.getD d (Int.toNat k) ((0 : Int), ((0 : Int), ((0 : Int), (([] : List Int), (ByteArray.empty, ByteArray.empty))))))).2).2).2).2).2) : Nat) : Int))) (.ret (.rt, ⟨78, [(6, .e (.c (.kb false)))], []⟩)) (.need (decide (((-(9223372036854775808 : Int) : Int) ≤ (k + (1 : Int) : Int)) ∧ ((k + (1 : Int) : Int) ≤ (9223372036854775807 : Int)))) (.ret (.nx, ⟨78, [(0, rL tEnt l), (1, rL tB f), (2, rL tDeed d), (7, rI (k + (1 : Int) : Int))], []⟩)))))))))) (.ret (.ex 0, ⟨78, [(0, rL tEnt l), (1, rL tB f)], []⟩))) (by kernel_rfl) ?_
    refine .rnd fun ⟨h1, h2⟩ => ?_
    refine .lif (fun hk => absurd hk (by omega)) (fun _ => ?_)
    exact .refl _
  · refine .pat q34b R34b (fun v => (v.1.2.1.length - v.1.2.2.1).toNat) ?_
    rintro ⟨⟨(l : List Ent), (f : List (List Int)), (k : Int), ⟨⟩⟩, ⟨⟩⟩ ih
    refine Gives.run (t' := .ite (decide (k < (((List.length f) : Nat) : Int))) (.ite (decide ((100 : Int) < k)) (.ret (.rt, ⟨78, [(6, .e (.c (.kb false)))], []⟩)) (.need (inR k (List.length f)) (.ite (decide ((1000 : Int) < (((List.length (List.getD f (Int.toNat k) ([] : List Int))) : Nat) : Int))) (.ret (.rt, ⟨78, [(6, .e (.c (.kb false)))], []⟩)) (.need (decide (((-(9223372036854775808 : Int) : Int) ≤ (k + (1 : Int) : Int)) ∧ ((k + (1 : Int) : Int) ≤ (9223372036854775807 : Int)))) (.ret (.nx, ⟨78, [(0, rL tEnt l), (1, rL tB f), (8, rI (k + (1 : Int) : Int))], []⟩)))))) (.ret (.ex 2, ⟨78, [(0, rL tEnt l)], []⟩))) (by kernel_rfl) ?_
    refine .rnd fun ⟨h1, h2, h3, h4⟩ => ?_
    refine .lif (fun hk => ?_) (fun hk => ?_)
    · refine .lif (fun hs => ?_) (fun hs => ?_)
      · exact .rtt (by unfold big14; rw [decide_eq_true (by omega)]; rfl) (.refl _)
      refine .lneed (inR_of h1 (by omega)) ?_
      have e : (k + 1).toNat = k.toNat + 1 := by omega
      have ed := drop_at f k.toNat [] (by omega)
      refine .lif (fun hs => ?_) (fun hs => ?_)
      · exact .rtt (by unfold big14; rw [ed, List.any_cons, decide_eq_true (p := 1000 < _) (by omega)]; simp) (.refl _)
      refine .lnd (by omega) ?_
      refine Gives.next (σ' := q34b.st ((l, f, k + 1, ()), ())) (by kernel_rfl) ((ih _ (by simp only; omega)).trans ?_)
      refine .nd (by omega) ?_
      have e1 : big14 f k = big14 f (k + 1) := by
        unfold big14; rw [ed, List.any_cons, decide_eq_false (p := 1000 < _) (by omega), e]; rfl
      rw [e1]
      exact .refl _
    · refine .rff (by unfold big14; rw [decide_eq_false (by omega), List.drop_eq_nil_of_le (by omega)]; rfl) (.refl _)
  · refine .pat q34c R34c (fun v => 0) ?_
    rintro ⟨⟨(l : List Ent), (k : Int), ⟨⟩⟩, ⟨⟩⟩ ih
    refine Gives.run (t' := .ite (decide (k < (((List.length l) : Nat) : Int))) (.ite (decide ((100 : Int) < k)) (.ret (.rt, ⟨78, [(6, .e (.c (.kb false)))], []⟩)) (.need (inR k (List.length l)) (.ite (decide ((100 : Int) < (((ByteArray.size ((List.getD l (Int.toNat k) (ByteArray.empty, (false, (0 : Int))))).1) : Nat) : Int))) (.ret (.rt, ⟨78, [(6, .e (.c (.kb false)))], []⟩)) (.need (decide (((-(9223372036854775808 : Int) : Int) ≤ (k + (1 : Int) : Int)) ∧ ((k + (1 : Int) : Int) ≤ (9223372036854775807 : Int)))) (.ret (.nx, ⟨78, [(0, rL tEnt l), (9, rI (k + (1 : Int) : Int))], []⟩)))))) (.ret (.ex 4, ⟨78, [], []⟩))) (by kernel_rfl) ?_
    refine .rnd fun ⟨h1, h2⟩ => ?_
    refine .lif (fun hk => absurd hk (by omega)) (fun _ => ?_)
    exact .refl _
def small14Ctr : Ctr := ctr (three (aVal (.sl tEnt)) (aVal (.sl tB)) (aVal (.sl tDeed))) fun a => .need (decide (a.1.length = 0 ∧ a.2.2.1.length = 0)) (ans (rB (!big14 a.2.1 0)))
theorem small14_ok : CtrOk Tryz.prog 34 small14Ctr := by
  refine .mk C34_ok mixed (q := fn34) (.of Tryz.func34 (by kernel_rfl)) lp34_ok (by decide) ?_
  rintro ⟨(l : List Ent), (f : List (List Int)), (d : (Ty.sl tDeed).El), ⟨⟩⟩ hb
  have hN : f.length ≤ 9223372036854775807 := hb.2.1.1
  refine Gives.of_eq (t' := .need (decide (((List.length d) = 0) ∧ ((0 : Int) = (0 : Int)))) (.need (decide (((0 : Int) ≤ (0 : Int)) ∧ (((0 : Int) ≤ (((List.length f) : Nat) : Int)) ∧ (((0 : Int) ≤ (101 : Int)) ∧ ((((List.length f) : Nat) : Int) ≤ (9223372036854775807 : Int)))))) (.ite (big14 f (0 : Int)) (.ret (rB false, ⟨0, [], []⟩)) (.need (decide (((List.length l) = 0) ∧ ((0 : Int) = (0 : Int)))) (.ret (rB true, ⟨0, [], []⟩)))))) (by kernel_rfl) ?_
  show Gives _ (.need (decide (l.length = 0 ∧ d.length = 0)) (.ret (rB (!big14 f 0), St.nil)))
  refine .rnd fun ⟨h1, h2⟩ => ?_
  refine .nd ⟨h2, rfl⟩ (.nd (by omega) ?_)
  refine .ite (fun h => ?_) (fun h => ?_)
  · rw [h]; exact .refl _
  · rw [h]; exact .nd ⟨h1, rfl⟩ (.refl _)
noncomputable def fn19 := mkFn Tryz.f19
def C19 : Cx := ⟨T, [], [(34, small14Ctr)], [], []⟩
theorem C19_ok : CxOk Tryz.prog C19 := ⟨T_ok, .nil _, .cons small14_ok (.nil _), .nil _⟩
def q19 : Frm := ⟨34, [(1, .ptr tInp), (3, .dat tI)], []⟩
def R19 : q19.V → Tr (Ex × St) := fun (((m : tInp.El), (k : Int), _), _) =>
  .need (decide (0 ≤ k ∧ k ≤ m.2.1.length ∧ (m.2.1.length : Int) ≤ 9223372036854775807)) (.ite ((m.2.1.drop k.toNat).any fun b => decide (500 < b.length)) (.ret (.rt, ⟨34, [(2, .e (.c (.kb false)))], []⟩)) (.ret (.ex 0, ⟨34, [], []⟩)))
def lp19 : LP := [(0, sumP q19 R19)]
theorem lp19_ok : LpsOk 0 C19 [] lp19 fn19.loops := by
  refine .all (by kernel_rfl) ?_
  simp only [lp19, List.forall_mem_cons, List.not_mem_nil, false_imp_iff, implies_true, and_true]
  refine .pat q19 R19 (fun v => (v.1.1.2.1.length - v.1.2.1).toNat) ?_
  rintro ⟨⟨⟨(iF : List (List Int)), (iA : List (List Int)), (iB : List Bool)⟩, (k : Int), ⟨⟩⟩, ⟨⟩⟩ ih
  refine Gives.run (t' := .ite (decide (k < (((List.length iA) : Nat) : Int))) (.need (inR k (List.length iA)) (.ite (decide ((500 : Int) < (((List.length (List.getD iA (Int.toNat k) ([] : List Int))) : Nat) : Int))) (.ret (.rt, ⟨34, [(2, .e (.c (.kb false)))], []⟩)) (.need (decide (((-(9223372036854775808 : Int) : Int) ≤ (k + (1 : Int) : Int)) ∧ ((k + (1 : Int) : Int) ≤ (9223372036854775807 : Int)))) (.ret (.nx, ⟨34, [(1, .e (.c (.dp [.sl tB iF, .sl tB iA, .sl Ty.bool iB]))), (3, rI (k + (1 : Int) : Int))], []⟩))))) (.ret (.ex 0, ⟨34, [], []⟩))) (by kernel_rfl) ?_
  refine .rnd fun ⟨h1, h2, h3⟩ => ?_
  have h2 : k ≤ iA.length := h2
  have h3 : (iA.length : Int) ≤ 9223372036854775807 := h3
  refine .lif (fun hk => ?_) (fun hk => ?_)
  · refine .lneed (inR_of h1 (by omega)) ?_
    have e : (k + 1).toNat = k.toNat + 1 := by omega
    have ed := drop_at iA k.toNat [] (by omega)
    refine .lif (fun hs => ?_) (fun hs => ?_)
    · exact .rtt (by show (iA.drop k.toNat).any _ = true; rw [ed, List.any_cons, decide_eq_true (p := 500 < _) (by omega)]; rfl) (.refl _)
    refine .lnd (by omega) ?_
    refine Gives.next (σ' := q19.st (((iF, iA, iB), k + 1, ()), ())) (by kernel_rfl) ((ih _ (by simp only; omega)).trans ?_)
    refine .nd ⟨by omega, by show k + 1 ≤ iA.length; omega, h3⟩ ?_
    show Gives (Tr.ite ((iA.drop (k + 1).toNat).any _) _ _) (Tr.ite ((iA.drop k.toNat).any _) _ _)
    rw [ed, List.any_cons, decide_eq_false (p := 500 < _) (by omega), e, Bool.false_or]
    exact .refl _
  · refine .rff (by show (iA.drop k.toNat).any _ = false; rw [List.drop_eq_nil_of_le (by omega)]; rfl) (.refl _)
def small16 (m : Inp) : Bool := !decide (200 < (m.2.2.length : Int)) && (!decide (50 < (m.2.1.length : Int)) && (!big14 m.1 0 && !m.2.1.any fun b => decide (500 < b.length)))
theorem small16_ok : CtrOk Tryz.prog 19 (ctr (one (aAgg tInp)) fun a => ans (rB (small16 a.1))) := by
  refine .mk C19_ok mixed (q := fn19) (.of Tryz.func19 (by kernel_rfl)) lp19_ok (by decide) ?_
  rintro ⟨⟨(iF : List (List Int)), (iA : List (List Int)), (iB : List Bool)⟩, ⟨⟩⟩ hb
  have hA : iA.length ≤ 9223372036854775807 := hb.1.2.1.1
  refine Gives.of_eq (t' := .ite (decide ((200 : Int) < (((List.length iB) : Nat) : Int))) (.ret (rB false, ⟨0, [], []⟩)) (.ite (decide ((50 : Int) < (((List.length iA) : Nat) : Int))) (.ret (rB false, ⟨0, [], []⟩)) (.need true (.ite (!(!(big14 iF (0 : Int)))) (.ret (rB false, ⟨0, [], []⟩)) (.need (decide (((0 : Int) ≤ (0 : Int)) ∧ (((0 : Int) ≤ (((List.length iA) : Nat) : Int)) ∧ ((((List.length iA) : Nat) : Int) ≤ (9223372036854775807 : Int))))) (.ite (List.any (List.drop 0 iA) (fun b => (decide (500 < (List.length b))))) (.ret (rB false, ⟨0, [], []⟩)) (.ret (rB true, ⟨0, [], []⟩)))))))) (by kernel_rfl) ?_
  show Gives _ (.ret (rB (small16 (iF, iA, iB)), St.nil))
  have e0 : small16 (iF, iA, iB) = (!decide (200 < (iB.length : Int)) && (!decide (50 < (iA.length : Int)) && (!big14 iF 0 && !iA.any fun b => decide (500 < b.length)))) := rfl
  rw [e0]
  clear e0
  refine .ite (fun h => ?_) (fun h => ?_)
  · rw [h]; exact .refl _
  rw [h]
  refine .ite (fun h' => ?_) (fun h' => ?_)
  · rw [h']; exact .refl _
  rw [h']
  refine .need rfl (.ite (fun h'' => ?_) (fun h'' => ?_))
  · rw [Bool.not_not] at h''; rw [h'']; exact .refl _
  rw [Bool.not_not] at h''; rw [h'']
  refine .nd ⟨by omega, by omega, by omega⟩ (.ite (fun h4 => ?_) (fun h4 => ?_))
  · rw [List.drop_zero] at h4; rw [h4]; exact .refl _
  · rw [List.drop_zero] at h4; rw [h4]; exact .refl _
noncomputable def fn7 := mkFn Tryz.f7
def C7 : Cx := ⟨T, [], [(17, ctr (one (aAgg tProg)) fun a => ans (rB (small10 a.1))), (18, ctr (one (aAgg tCls)) fun a => ans (rB (small17 a.1))), (19, ctr (one (aAgg tInp)) fun a => ans (rB (small16 a.1)))], [], []⟩
theorem C7_ok : CxOk Tryz.prog C7 := ⟨T_ok, .nil _, .cons small10_ok (.cons small17_ok (.cons small16_ok (.nil _))), .nil _⟩
def smallR (m : Img) : Bool := small10 m.1 && (small17 m.2.1 && (small16 m.2.2.1 && decide ((m.2.2.2.1.length : Int) ≤ 2000)))
theorem smallR_ok : CtrOk Tryz.prog 7 (ctr (one (aAgg tImg)) fun a => ans (rB (smallR a.1))) := by
  refine .mk C7_ok mixed (q := fn7) (.of Tryz.func7 (by kernel_rfl)) (N := 0) (nr := []) .none (by decide) ?_
  rintro ⟨⟨⟨(pL : List (Int × Int)), (pN : List ByteArray)⟩, ⟨(cT : List Ent), (cA : List Int), (c1 : Int), (c2 : Int), (c3 : Int)⟩, ⟨(iF : List (List Int)), (iA : List (List Int)), (iB : List Bool)⟩, ⟨(tL : List (Bool × Int)), (tE : Int), (tC : Int)⟩⟩, ⟨⟩⟩ hb
  refine Gives.of_eq (t' := .need true (.ite (small10 (pL, pN)) (.need true (.ite (small17 (cT, (cA, (c1, (c2, c3))))) (.need true (.ite (small16 (iF, (iA, iB))) (.ret (rB (decide ((((List.length tL) : Nat) : Int) ≤ (2000 : Int))), ⟨0, [], []⟩)) (.ret (rB false, ⟨0, [], []⟩)))) (.ret (rB false, ⟨0, [], []⟩)))) (.ret (rB false, ⟨0, [], []⟩)))) (by kernel_rfl) ?_
  show Gives _ (.ret (rB (smallR ((pL, pN), (cT, cA, c1, c2, c3), (iF, iA, iB), (tL, tE, tC))), St.nil))
  have e0 : smallR ((pL, pN), (cT, cA, c1, c2, c3), (iF, iA, iB), (tL, tE, tC)) = (small10 (pL, pN) && (small17 (cT, cA, c1, c2, c3) && (small16 (iF, iA, iB) && decide ((tL.length : Int) ≤ 2000)))) := rfl
  rw [e0]
  clear e0
  refine .need rfl (.ite (fun h => ?_) (fun h => ?_))
  · rw [h]
    refine .need rfl (.ite (fun h' => ?_) (fun h' => ?_))
    · rw [h']
      refine .need rfl (.ite (fun h'' => ?_) (fun h'' => ?_))
      · rw [h'']; exact .refl _
      · rw [h'']; exact .refl _
    · rw [h']; exact .refl _
  · rw [h]; exact .refl _
end Go.Proofs.YtdngaaploooceaaGreatDoor.Sy

/- Contracts: one image is written and read. -/
set_option maxRecDepth 100000
namespace Go.Proofs.YtdngaaploooceaaGreatDoor.Sy
open Go.RowKit Kit Go.Proofs
def m0 : Img := (([(1, 0), (26, 0)], []), ([], [], 0, 0, 0), ([], [], []), ([], 1, 0))
theorem m0_read : readI (writeB m0) = (0, m0) := by kernel_rfl
theorem m0_write : writeE m0 = 0 := by kernel_rfl
theorem m0_len : (writeB m0).length = 4608 := by kernel_rfl
theorem m0_u8 : u8s (writeB m0) = true := writeB_u8 (by kernel_rfl)
noncomputable def fn6 := mkFn Tryz.f6
noncomputable def C6 : Cx := ⟨T, FL, [(8, writeCtr), (12, readCtr)], [], [8, 1000000+12]⟩
theorem C6_ok : CxOk Tryz.prog C6 := ⟨T_ok, FL_ok, .cons write_ok (.cons read_ok (.nil _)), .nil _⟩
theorem awake_ok : CtrOk Tryz.prog 6 (ctr Args.nil fun _ => ans (rB true)) := by
  refine .mk C6_ok mixed (q := fn6) (.of Tryz.func6 (by kernel_rfl)) (N := 0) (nr := []) .none (by decide) ?_
  rintro ⟨⟩ hb
  refine Gives.of_eq (t' := .need true (.ite false (.need true (.ite true (.ite false (.ite false (.ite false (.ret (rB ((((((((readI ([] : List Int))).2).2).2).2).2).1 == (1 : Int)), ⟨0, [], []⟩)) (.ret (rB false, ⟨0, [], []⟩))) (.ret (rB false, ⟨0, [], []⟩))) (.ret (rB false, ⟨0, [], []⟩))) (.ret (rB false, ⟨0, [], []⟩)))) (.need true (.ite true (.ite true (.ite true (.ite true (.ret (rB ((((((((readI (writeB (([((1 : Int), (0 : Int)), ((26 : Int), (0 : Int))], ([] : List ByteArray)), ((([] : List (Prod ByteArray (Prod Bool Int))), (([] : List Int), ((0 : Int), ((0 : Int), (0 : Int))))), ((([] : List (List Int)), (([] : List (List Int)), ([] : List Bool))), (([] : List (Prod Bool Int)), ((1 : Int), (0 : Int))))))))).2).2).2).2).2).1 == (1 : Int)), ⟨0, [], []⟩)) (.ret (rB false, ⟨0, [], []⟩))) (.ret (rB false, ⟨0, [], []⟩))) (.ret (rB false, ⟨0, [], []⟩))) (.ret (rB false, ⟨0, [], []⟩)))))) (by kernel_rfl) ?_
  refine .need rfl (.ff rfl (.need rfl (.tt rfl (.tt rfl (.tt rfl (.tt rfl ?_))))))
  have e : ((readI (writeB m0)).2.2.2.2.2.1 == (1 : Int)) = true := by rw [m0_read]; rfl
  unfold m0 at e
  rw [e]
  exact .refl _
end Go.Proofs.YtdngaaploooceaaGreatDoor.Sy

/- Contracts: ImageReads. -/
set_option maxRecDepth 100000
namespace Go.Proofs.YtdngaaploooceaaGreatDoor.Sy
open Go.RowKit Kit Go.Proofs
theorem fileB_len (f : File) (h : f.1.size ≤ 99) : ((fileB f).length : Int) = 512 * (1 + blocksF f.2.2.length) := by
  have hb := blocksF_le (n := (f.2.2.length : Int)) (by omega)
  unfold fileB padF
  rw [List.length_append, List.length_append, headF_len f h, List.length_replicate]
  omega
theorem nameBad_size {f : File} (h : nameBad f = false) : f.1.size ≤ 99 := by
  unfold nameBad at h
  simp only [Bool.or_eq_false_iff, decide_eq_false_iff_not] at h
  omega
theorem flatB_len : ∀ (l : List File) (n : Int), 2 ≤ n → n ≤ 128 → l.any nameBad = false → fullBad n l = false → ((l.flatMap fileB).length : Int) ≤ 512 * (128 - n)
  | [], n, h2, hn, _, _ => by simp; omega
  | f :: r, n, h2, hn, h, hf => by
    rw [List.any_cons, Bool.or_eq_false_iff] at h
    rw [fullBad, Bool.or_eq_false_iff, decide_eq_false_iff_not] at hf
    have hs := nameBad_size h.1
    have hb := blocksF_le (n := (f.2.2.length : Int)) (by omega)
    have hk : blkF f = 1 + blocksF f.2.2.length := by
      have h1 : 1 + blocksF (imin f.2.2.length 65536) ≤ 126 := by have := hf.1; unfold blkF at this; omega
      unfold blkF
      unfold imin at h1 ⊢
      split at h1
      · exfalso
        have := blocksF_le (n := 65536) (by omega)
        omega
      · rename_i hc; rw [if_neg hc]
    have ih := flatB_len r (n + blkF f) (by omega) (by omega) h.2 hf.2
    rw [List.flatMap_cons, List.length_append]
    have := fileB_len f hs
    omega
theorem tMay_len {l : List File} (h : tMay l = 0) : (arcF l).length ≤ 65536 := by
  unfold tMay at h
  have h1 : l.any nameBad = false := by
    cases hc : l.any nameBad with
    | false => rfl
    | true => rw [hc] at h; simp at h
  have h2 : l.any dirBad = false := by
    cases hc : l.any dirBad with
    | false => rfl
    | true => rw [h1, hc] at h; simp at h
  have h3 : fullBad 2 l = false := by
    cases hc : fullBad 2 l with
    | false => rfl
    | true => rw [h1, h2, hc] at h; simp at h
  have := flatB_len l 2 (by omega) (by omega) h1 h3
  unfold arcF
  rw [List.length_append, List.length_replicate]
  omega
theorem writeE_may {m : Img} (h : writeE m = 0) : tMay (imgFs m) = 0 := by
  unfold writeE at h
  split at h
  · rename_i h'; exact absurd h h'
  split at h
  · exact absurd h (by decide)
  split at h
  · exact absurd h (by decide)
  split at h
  · exact absurd h (by decide)
  exact h
theorem writeB_len {m : Img} (h : writeE m = 0) : (writeB m).length ≤ 65536 := tMay_len (writeE_may h)
theorem writeB_pos (m : Img) : 1024 ≤ (writeB m).length := by
  unfold writeB arcF
  rw [List.length_append, List.length_replicate]
  omega
theorem oneE_codes (h r : List Int) : oneE h r = 0 ∨ oneE h r = 4 ∨ oneE h r = 14 := by
  unfold oneE
  split
  · exact .inr (.inr rfl)
  split
  · exact .inr (.inl rfl)
  split
  · exact .inr (.inl rfl)
  · exact .inl rfl
theorem rdL_codes : ∀ (n : Nat) (b : List Int), (rdL n b).1 = 0 ∨ (rdL n b).1 = 4 ∨ (rdL n b).1 = 14
  | 0, _ => .inr (.inl rfl)
  | n + 1, b => by
    rw [rdL]
    split
    · exact .inr (.inl rfl)
    split
    · exact .inl rfl
    split
    · exact oneE_codes _ _
    · exact rdL_codes n _
theorem readI_codes (b : List Int) : (readI b).1 = 0 ∨ (readI b).1 = 4 ∨ (readI b).1 = 14 := by
  unfold readI
  split
  · unfold readT
    split
    · exact rdL_codes _ _
    split
    · exact .inr (.inl rfl)
    · exact .inl rfl
  split
  · exact .inr (.inl rfl)
  split
  · exact .inr (.inl rfl)
  · exact .inl rfl
theorem readI_back {b : List Int} (h : (readI b).1 = 0) : writeE (readI b).2 = 0 ∧ writeB (readI b).2 = b := by
  unfold readI at h ⊢
  split at h
  · rename_i h1; exact absurd h h1
  rename_i h1
  split at h
  · exact absurd h (by decide)
  rename_i h2
  split at h
  · exact absurd h (by decide)
  rename_i h3
  rw [if_neg h1, if_neg h2, if_neg h3]
  rw [not_or, Classical.not_not, Classical.not_not] at h3
  exact h3
noncomputable def fn4 := mkFn Tryz.f4
noncomputable def C4 : Cx := ⟨T, FL, [(6, ctr Args.nil fun _ => ans (rB true)), (7, ctr (one (aAgg tImg)) fun a => ans (rB (smallR a.1))), (8, writeCtr), (12, readCtr)], [], [3, 1000000+12]⟩
theorem C4_ok : CxOk Tryz.prog C4 := ⟨T_ok, FL_ok, .cons awake_ok (.cons smallR_ok (.cons write_ok (.cons read_ok (.nil _)))), .nil _⟩
theorem reads_ok : CtrOk Tryz.prog 4 (ctr (three (aAgg tImg) (aVal (.int .u16)) (aVal (.int .u8))) fun a => .need (decide (imgU a.1 = true ∧ 0 ≤ a.2.1 ∧ a.2.1 ≤ 65535)) (ans (rB true))) := by
  refine .mk C4_ok mixed (q := fn4) (.of Tryz.func4 (by kernel_rfl)) (N := 0) (nr := []) .none (by decide) ?_
  rintro ⟨(m : Img), (u : Int), (v : Int), ⟨⟩⟩ hb
  refine Gives.of_eq (t' := .ite false (.ret (rB false, ⟨0, [], []⟩)) (.need true (.ite (!(smallR m)) (.ret (rB true, ⟨0, [], []⟩)) (.need true (.need true (.need true (.need true (.ite ((writeE m) != (0 : Int)) (.ite ((writeE m) != (0 : Int)) (.ite true (.ret (rB ((writeE m) != (0 : Int)), ⟨0, [], []⟩)) (.ret (rB false, ⟨0, [], []⟩))) (.ite true (.ite true (.ret (rB ((writeE m) != (0 : Int)), ⟨0, [], []⟩)) (.ret (rB false, ⟨0, [], []⟩))) (.need false (.fail)))) (.ite false (.ite false (.ret (rB ((0 : Int) != (0 : Int)), ⟨0, [], []⟩)) (.ret (rB false, ⟨0, [], []⟩))) (.ite false (.ite false (.ret (rB ((0 : Int) != (0 : Int)), ⟨0, [], []⟩)) (.ret (rB false, ⟨0, [], []⟩))) (.need true (.need (inR (Int.tmod (IntKind.wrap IntKind.i64 u) (((List.length (writeB m)) : Nat) : Int)) (List.length (writeB m))) (.need (decide ((Int.toNat (Int.tmod (IntKind.wrap IntKind.i64 u) (((List.length (writeB m)) : Nat) : Int))) < (List.length (writeB m)))) (.need (inR (Int.tmod (IntKind.wrap IntKind.i64 u) (((List.length (writeB m)) : Nat) : Int)) (List.length (writeB m))) (.need (decide ((Int.toNat (Int.tmod (IntKind.wrap IntKind.i64 u) (((List.length (writeB m)) : Nat) : Int))) < (List.length (writeB m)))) (.need (decide (((u8s (List.set (writeB m) (Int.toNat (Int.tmod (IntKind.wrap IntKind.i64 u) (((List.length (writeB m)) : Nat) : Int))) (IntKind.wrap IntKind.u8 (((BitVec.toNat (HXor.hXor (BitVec.ofInt (IntKind.bits IntKind.u8) (List.getD (writeB m) (Int.toNat (Int.tmod (IntKind.wrap IntKind.i64 u) (((List.length (writeB m)) : Nat) : Int))) (0 : Int))) (BitVec.ofInt (IntKind.bits IntKind.u8) v))) : Nat) : Int)))) = true) ∧ ((List.length (List.set (writeB m) (Int.toNat (Int.tmod (IntKind.wrap IntKind.i64 u) (((List.length (writeB m)) : Nat) : Int))) (IntKind.wrap IntKind.u8 (((BitVec.toNat (HXor.hXor (BitVec.ofInt (IntKind.bits IntKind.u8) (List.getD (writeB m) (Int.toNat (Int.tmod (IntKind.wrap IntKind.i64 u) (((List.length (writeB m)) : Nat) : Int))) (0 : Int))) (BitVec.ofInt (IntKind.bits IntKind.u8) v))) : Nat) : Int)))) ≤ 1000000000))) (.ite (((readI (List.set (writeB m) (Int.toNat (Int.tmod (IntKind.wrap IntKind.i64 u) (((List.length (writeB m)) : Nat) : Int))) (IntKind.wrap IntKind.u8 (((BitVec.toNat (HXor.hXor (BitVec.ofInt (IntKind.bits IntKind.u8) (List.getD (writeB m) (Int.toNat (Int.tmod (IntKind.wrap IntKind.i64 u) (((List.length (writeB m)) : Nat) : Int))) (0 : Int))) (BitVec.ofInt (IntKind.bits IntKind.u8) v))) : Nat) : Int))))).1 != (0 : Int)) (.ite (((readI (List.set (writeB m) (Int.toNat (Int.tmod (IntKind.wrap IntKind.i64 u) (((List.length (writeB m)) : Nat) : Int))) (IntKind.wrap IntKind.u8 (((BitVec.toNat (HXor.hXor (BitVec.ofInt (IntKind.bits IntKind.u8) (List.getD (writeB m) (Int.toNat (Int.tmod (IntKind.wrap IntKind.i64 u) (((List.length (writeB m)) : Nat) : Int))) (0 : Int))) (BitVec.ofInt (IntKind.bits IntKind.u8) v))) : Nat) : Int))))).1 == (4 : Int)) (.ret (rB true, ⟨0, [], []⟩)) (.ret (rB (((readI (List.set (writeB m) (Int.toNat (Int.tmod (IntKind.wrap IntKind.i64 u) (((List.length (writeB m)) : Nat) : Int))) (IntKind.wrap IntKind.u8 (((BitVec.toNat (HXor.hXor (BitVec.ofInt (IntKind.bits IntKind.u8) (List.getD (writeB m) (Int.toNat (Int.tmod (IntKind.wrap IntKind.i64 u) (((List.length (writeB m)) : Nat) : Int))) (0 : Int))) (BitVec.ofInt (IntKind.bits IntKind.u8) v))) : Nat) : Int))))).1 == (14 : Int)), ⟨0, [], []⟩))) (.need true (.ite ((writeE ((readI (List.set (writeB m) (Int.toNat (Int.tmod (IntKind.wrap IntKind.i64 u) (((List.length (writeB m)) : Nat) : Int))) (IntKind.wrap IntKind.u8 (((BitVec.toNat (HXor.hXor (BitVec.ofInt (IntKind.bits IntKind.u8) (List.getD (writeB m) (Int.toNat (Int.tmod (IntKind.wrap IntKind.i64 u) (((List.length (writeB m)) : Nat) : Int))) (0 : Int))) (BitVec.ofInt (IntKind.bits IntKind.u8) v))) : Nat) : Int))))).2) != (0 : Int)) (.ite ((writeE ((readI (List.set (writeB m) (Int.toNat (Int.tmod (IntKind.wrap IntKind.i64 u) (((List.length (writeB m)) : Nat) : Int))) (IntKind.wrap IntKind.u8 (((BitVec.toNat (HXor.hXor (BitVec.ofInt (IntKind.bits IntKind.u8) (List.getD (writeB m) (Int.toNat (Int.tmod (IntKind.wrap IntKind.i64 u) (((List.length (writeB m)) : Nat) : Int))) (0 : Int))) (BitVec.ofInt (IntKind.bits IntKind.u8) v))) : Nat) : Int))))).2) == (0 : Int)) (.need true (.ret (rB (decide ((txt (List.set (writeB m) (Int.toNat (Int.tmod (IntKind.wrap IntKind.i64 u) (((List.length (writeB m)) : Nat) : Int))) (IntKind.wrap IntKind.u8 (((BitVec.toNat (HXor.hXor (BitVec.ofInt (IntKind.bits IntKind.u8) (List.getD (writeB m) (Int.toNat (Int.tmod (IntKind.wrap IntKind.i64 u) (((List.length (writeB m)) : Nat) : Int))) (0 : Int))) (BitVec.ofInt (IntKind.bits IntKind.u8) v))) : Nat) : Int)))) = ByteArray.empty)), ⟨0, [], []⟩))) (.ret (rB false, ⟨0, [], []⟩))) (.ite true (.need true (.need true (.ret (rB (decide ((txt (List.set (writeB m) (Int.toNat (Int.tmod (IntKind.wrap IntKind.i64 u) (((List.length (writeB m)) : Nat) : Int))) (IntKind.wrap IntKind.u8 (((BitVec.toNat (HXor.hXor (BitVec.ofInt (IntKind.bits IntKind.u8) (List.getD (writeB m) (Int.toNat (Int.tmod (IntKind.wrap IntKind.i64 u) (((List.length (writeB m)) : Nat) : Int))) (0 : Int))) (BitVec.ofInt (IntKind.bits IntKind.u8) v))) : Nat) : Int)))) = (txt (writeB ((readI (List.set (writeB m) (Int.toNat (Int.tmod (IntKind.wrap IntKind.i64 u) (((List.length (writeB m)) : Nat) : Int))) (IntKind.wrap IntKind.u8 (((BitVec.toNat (HXor.hXor (BitVec.ofInt (IntKind.bits IntKind.u8) (List.getD (writeB m) (Int.toNat (Int.tmod (IntKind.wrap IntKind.i64 u) (((List.length (writeB m)) : Nat) : Int))) (0 : Int))) (BitVec.ofInt (IntKind.bits IntKind.u8) v))) : Nat) : Int))))).2)))), ⟨0, [], []⟩)))) (.ret (rB false, ⟨0, [], []⟩)))))))))))))))))))))) (by kernel_rfl) ?_
  show Gives _ (.need (decide (imgU m = true ∧ 0 ≤ u ∧ u ≤ 65535)) (.ret (rB true, St.nil)))
  refine .rnd fun ⟨h1, h2, h3⟩ => ?_
  refine .ff rfl (.need rfl (.ite (fun h => .refl _) (fun h => ?_)))
  clear h
  refine .need rfl (.need rfl (.need rfl (.need rfl ?_)))
  refine .ite (fun h => ?_) (fun h => ?_)
  · refine .tt h (.tt rfl ?_)
    rw [h]; exact .refl _
  have hw : writeE m = 0 := bne_eq_false_iff_eq.1 h
  have hl := writeB_len hw
  have hp := writeB_pos m
  have hu := writeB_u8 h1
  have eu : IntKind.wrap .i64 u = u := wrap_i64 (by omega)
  have et : Int.tmod u ((writeB m).length : Int) = u % ((writeB m).length : Int) := Int.tmod_eq_emod_of_nonneg h2
  have e1 := Int.emod_nonneg u (b := ((writeB m).length : Int)) (by omega)
  have e2 := Int.emod_lt_of_pos u (b := ((writeB m).length : Int)) (by omega)
  generalize writeB m = B at *
  refine .ff rfl (.ff rfl ?_)
  rw [eu, et]
  generalize u % (B.length : Int) = k at *
  refine .need rfl (.need (inR_of e1 (by omega)) (.nd (by omega) (.need (inR_of e1 (by omega)) (.nd (by omega) ?_))))
  have hs : ∀ x, u8s (B.set k.toNat (IntKind.wrap .u8 x)) = true := fun x => u8s_set hu _ (u8_iff.2 (u8_wrap x))
  have hsl : ∀ x, (B.set k.toNat (IntKind.wrap .u8 x)).length ≤ 1000000000 := fun x => by rw [List.length_set]; omega
  generalize ((((_ : BitVec _).toNat : Nat) : Int)) = X
  replace hs := hs X
  replace hsl := hsl X
  generalize B.set k.toNat (IntKind.wrap .u8 X) = B2 at *
  refine .nd ⟨hs, hsl⟩ ?_
  have hc := readI_codes B2
  refine .ite (fun h => ?_) (fun h => ?_)
  · have h : ¬ (readI B2).1 = 0 := bne_iff_ne.1 h
    refine .ite (fun h' => .refl _) (fun h' => ?_)
    have h' : ¬ (readI B2).1 = 4 := by simpa using h'
    have e : (readI B2).1 = 14 := by omega
    rw [e]; exact .refl _
  · have h : (readI B2).1 = 0 := bne_eq_false_iff_eq.1 h
    obtain ⟨g1, g2⟩ := readI_back h
    refine .need rfl (.ff (bne_eq_false_iff_eq.2 g1) (.tt rfl (.need rfl (.need rfl ?_))))
    rw [g2, decide_eq_true rfl]; exact .refl _
end Go.Proofs.YtdngaaploooceaaGreatDoor.Sy
