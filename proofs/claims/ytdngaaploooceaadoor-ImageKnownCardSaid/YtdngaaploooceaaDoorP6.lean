/- Contracts: image.Read. -/
import Derived.Test.YtdngaaploooceaaDoorP5
set_option maxRecDepth 100000
namespace Go.Proofs.YtdngaaploooceaaDoor.Sy
open Go.RowKit Kit Go.Proofs
/-! ### bytes that are bytes -/
theorem w8_u8 (n : Int) : u8 (w8 n) = true := u8_iff.2 (u8_wrap n)
theorem hi8_u8 (n : Int) : u8 (hi8 n) = true := u8_iff.2 (u8_wrap _)
theorem u8s_flat {α : Type} {f : α → List Int} {l : List α} (h : ∀ x ∈ l, u8s (f x) = true) : u8s (l.flatMap f) = true := by
  induction l with
  | nil => rfl
  | cons x r ih => rw [List.flatMap_cons, u8s_app, h x (List.mem_cons_self ..), ih fun y hy => h y (List.mem_cons_of_mem _ hy)]; rfl
theorem u8s_cons {x : Int} {l : List Int} (h : u8 x = true) (hl : u8s l = true) : u8s (x :: l) = true := by
  show (u8 x && u8s l) = true; rw [h, hl]; rfl
theorem pBytes_u8 (p : Prog) : u8s (pBytes p) = true := by
  unfold pBytes
  rw [u8s_app, u8s_app, u8s_app]
  rw [u8s_flat (f := nameB) fun s _ => u8s_cons (w8_u8 _) (u8s_strB s), u8s_flat (f := instB) fun i _ => u8s_cons (w8_u8 _) (u8s_cons (hi8_u8 _) (u8s_cons (w8_u8 _) rfl))]
  rw [u8s_cons (x := 88) rfl (u8s_cons (x := 82) rfl (u8s_cons (w8_u8 p.2.length) rfl)), u8s_cons (w8_u8 p.1.length) rfl]; rfl
theorem twoF_u8 (n : Int) : u8s (twoF n) = true := u8s_cons (hi8_u8 n) (u8s_cons (w8_u8 n) rfl)
theorem truth_u8 (b : Bool) : u8 (truth b) = true := by cases b <;> rfl
theorem kindF_u8 (c : Cls) : u8s (kindF c) = true := by
  unfold kindF
  rw [u8s_app, u8s_app, twoF_u8, u8s_cons (w8_u8 _) (u8s_cons (w8_u8 _) rfl)]
  have : u8s ((capsC c).map w8) = true := List.all_eq_true.2 fun x hx => by obtain ⟨y, _, rfl⟩ := List.mem_map.1 hx; exact w8_u8 y
  rw [this]; rfl
theorem traceF_u8 (t : Trc) : u8s (traceF t) = true := by
  unfold traceF
  rw [u8s_app, u8s_app, twoF_u8, u8s_flat (f := evB) fun e _ => u8s_cons (truth_u8 _) (twoF_u8 _), u8s_cons (w8_u8 _) rfl]; rfl
theorem fileB_u8 {f : File} (h : u8s f.2.2 = true) : u8s (fileB f) = true := by
  unfold fileB padF
  rw [u8s_app, u8s_app, headF_u8, h, u8s_rep]; rfl
theorem arcF_u8 {l : List File} (h : ∀ f ∈ l, u8s f.2.2 = true) : u8s (arcF l) = true := by
  unfold arcF
  rw [u8s_app, u8s_flat fun f hf => fileB_u8 (h f hf), u8s_rep]; rfl
theorem treeFs_u8 : ∀ (t : List Ent) (fs : List (List Int)), (∀ b ∈ fs, u8s b = true) → ∀ f ∈ treeFs t fs, u8s f.2.2 = true
  | [], _, _, f, hf => by cases hf
  | x :: r, fs, h, f, hf => by
    rw [treeFs_cons] at hf
    split at hf
    · rcases List.mem_cons.1 hf with rfl | hf
      · rfl
      · exact treeFs_u8 r fs h f hf
    · rcases List.mem_cons.1 hf with rfl | hf
      · cases fs with
        | nil => rfl
        | cons b bs' => exact h b (List.mem_cons_self ..)
      · refine treeFs_u8 r fs.tail (fun b hb => h b (List.mem_of_mem_tail hb)) f hf
theorem argFs_u8 : ∀ (l : List (List Int)) (k : Int), (∀ b ∈ l, u8s b = true) → ∀ f ∈ argFs k l, u8s f.2.2 = true
  | [], _, _, f, hf => by cases hf
  | x :: r, k, h, f, hf => by
    rcases List.mem_cons.1 hf with rfl | hf
    · exact h x (List.mem_cons_self ..)
    · exact argFs_u8 r (k + 1) (fun b hb => h b (List.mem_cons_of_mem _ hb)) f hf
/-- an image's texts are bytes -/
def imgU (m : Img) : Bool := m.2.2.1.1.all u8s && m.2.2.1.2.1.all u8s
theorem imgFs_u8 {m : Img} (h : imgU m = true) : ∀ f ∈ imgFs m, u8s f.2.2 = true := by
  simp only [imgU, Bool.and_eq_true] at h
  intro f hf
  unfold imgFs filesF at hf
  rcases List.mem_append.1 hf with hf | hf
  · rcases List.mem_cons.1 hf with rfl | hf
    · exact pBytes_u8 _
    · rcases List.mem_append.1 hf with hf | hf
      · exact treeFs_u8 _ _ (fun b hb => List.all_eq_true.1 h.1 b hb) f hf
      · exact argFs_u8 _ _ (fun b hb => List.all_eq_true.1 h.2 b hb) f hf
  · simp only [List.mem_cons, List.not_mem_nil, or_false] at hf
    rcases hf with rfl | rfl | rfl
    · exact List.all_eq_true.2 fun x hx => by obtain ⟨y, _, rfl⟩ := List.mem_map.1 hx; exact truth_u8 y
    · exact kindF_u8 _
    · exact traceF_u8 _
theorem writeB_u8 {m : Img} (h : imgU m = true) : u8s (writeB m) = true := arcF_u8 (imgFs_u8 h)
theorem foldF_u8 : ∀ (L : List File) (a : Acc), (∀ f ∈ L, u8s f.2.2 = true) → (∀ b ∈ a.2.2.1, u8s b = true) ∧ (∀ b ∈ a.2.2.2, u8s b = true) → (∀ b ∈ (L.foldl addF a).2.2.1, u8s b = true) ∧ (∀ b ∈ (L.foldl addF a).2.2.2, u8s b = true)
  | [], a, _, ha => ha
  | f :: r, a, h, ha => by
    rw [List.foldl_cons]
    refine foldF_u8 r _ (fun g hg => h g (List.mem_cons_of_mem _ hg)) ?_
    have hf := h f (List.mem_cons_self ..)
    unfold addF
    split
    · split
      · exact ha
      · exact ⟨fun b hb => by rcases List.mem_append.1 hb with hb | hb; exact ha.1 b hb; rw [List.mem_singleton.1 hb]; exact hf, ha.2⟩
    · exact ⟨ha.1, fun b hb => by rcases List.mem_append.1 hb with hb | hb; exact ha.2 b hb; rw [List.mem_singleton.1 hb]; exact hf⟩
theorem made2_u8 {l : List File} (h : madeOk l = true) : imgU (made2 l) = true := by
  have hm : ∀ f ∈ mids l, u8s f.2.2 = true := fun f hf => by
    simp only [madeOk, Bool.and_eq_true] at h
    have := List.all_eq_true.1 h.2 f (List.mem_of_mem_take (List.mem_of_mem_drop hf))
    simp only [Bool.and_eq_true] at this
    exact this.1.2
  have := foldF_u8 (mids l) ([], [], [], []) hm ⟨fun b hb => (by cases hb), fun b hb => (by cases hb)⟩
  unfold imgU made2 accF
  rw [Bool.and_eq_true]
  exact ⟨List.all_eq_true.2 this.1, List.all_eq_true.2 this.2⟩
theorem madeF_u8 {l : List File} (h : madeOk l = true) : imgU (madeF l).2 = true := by
  unfold madeF
  split
  · rfl
  · exact made2_u8 h
/-- what is read of bytes may be made an image -/
theorem oneE_zero {h r : List Int} (he : oneE h r = 0) : tMay [oneFl h r] = 0 ∧ headF (oneFl h r) = h := by
  unfold oneE at he
  split at he
  · cases he
  split at he
  · cases he
  split at he
  · cases he
  · rename_i hx
    rw [not_or, not_or, Classical.not_not, Classical.not_not] at hx
    exact ⟨hx.1, hx.2.1⟩
theorem oneF'_ok {h r : List Int} (hr : u8s r = true) : (decide ((oneF' h r).1.size ≤ 1000000000) && u8s (oneF' h r).2.2 && decide ((oneF' h r).2.2.length ≤ 1000000000)) = true := by
  unfold oneF'
  split
  · rename_i he
    have h1 := (tMay_zero (oneE_zero he).1).2.2.2.2
    have h2 := of_decide_eq_true (List.all_eq_true.1 h1 _ (List.mem_singleton.2 rfl))
    rw [decide_eq_true (by have := h2.1; omega), decide_eq_true (by have := h2.2; omega)]
    show (true && u8s (r.take _) && true) = true
    rw [u8s_take hr]; rfl
  · rfl
theorem rdL_ok : ∀ (n : Nat) (b : List Int), u8s b = true → ((rdL n b).2.1.all fun f => decide (f.1.size ≤ 1000000000) && u8s f.2.2 && decide (f.2.2.length ≤ 1000000000)) = true ∧ (rdL n b).2.1.length ≤ b.length
  | 0, _, _ => ⟨rfl, Nat.zero_le _⟩
  | n + 1, b, hb => by
    rw [rdL]
    split
    · exact ⟨rfl, Nat.zero_le _⟩
    split
    · exact ⟨rfl, Nat.zero_le _⟩
    split
    · exact ⟨rfl, Nat.zero_le _⟩
    · have ih := rdL_ok n (oneR (b.take 512) (b.drop 512)) (oneR_u8 (u8s_drop hb 512))
      have hl := oneR_len (b.take 512) (b.drop 512)
      rw [List.length_drop] at hl
      refine ⟨?_, by simp only [List.length_cons]; omega⟩
      rw [List.all_cons, oneF'_ok (u8s_drop hb 512), ih.1]; rfl
theorem readT_ok {b : List Int} (hb : u8s b = true) : ((readT b).2.all fun f => decide (f.1.size ≤ 1000000000) && u8s f.2.2 && decide (f.2.2.length ≤ 1000000000)) = true ∧ (readT b).2.length ≤ 1000000 := by
  have h := rdL_ok b.length b hb
  unfold readT
  split
  · exact ⟨rfl, Nat.zero_le _⟩
  split
  · exact ⟨rfl, Nat.zero_le _⟩
  · rename_i hx
    rw [not_or, not_or] at hx
    exact ⟨h.1, by show (rdL b.length b).2.1.length ≤ _; omega⟩
theorem readT_made {b : List Int} (hb : u8s b = true) : madeOk (readT b).2 = true := by
  have h := readT_ok hb
  unfold madeOk
  rw [h.1, decide_eq_true h.2]; rfl

/-! ### image.Read -/
def readI (b : List Int) : Int × Img :=
  if (readT b).1 ≠ 0 then ((readT b).1, zeroImg)
  else if (madeF (readT b).2).1 = false then (4, zeroImg)
  else if writeE (madeF (readT b).2).2 ≠ 0 ∨ ¬ writeB (madeF (readT b).2).2 = b then (4, zeroImg) else (0, (madeF (readT b).2).2)
noncomputable def fn12 := mkFn Tryd.f7
noncomputable def C12 : Cx := ⟨T, FL, [(6, tReadCtr), (15, madeCtr), (5, writeCtr), (16, equalCtr)], [], []⟩
theorem C12_ok : CxOk Tryd.prog C12 := ⟨T_ok, FL_ok, .cons tRead_ok (.cons made_ok (.cons write_ok (.cons equal_ok (.nil _)))), .nil _⟩
def readCtr : Ctr := ctr (one (aVal tB)) fun a => .need (decide (u8s a.1 = true ∧ a.1.length ≤ 1000000000)) (.ret (.tup [eImg (readI a.1).2, eI (readI a.1).1], []))
set_option maxHeartbeats 4000000 in
theorem read0_ok : CtrOk Tryd.prog 7 (ctr (one (aVal tB)) fun a => .need (decide (u8s a.1 = true ∧ a.1.length ≤ 1000000000)) (.ite ((readI a.1).1 != 0) (.ret (.tup [zeroA, eI (readI a.1).1], [])) (.ret (.tup [eImg (readI a.1).2, eI 0], [])))) := by
  refine .mk C12_ok mixed (q := fn12) (.of Tryd.func7 (by kernel_rfl)) (N := 0) (nr := []) .none (by decide) ?_
  rintro ⟨(b : List Int), ⟨⟩⟩ -
  show Gives _ (.need _ (.ite ((readI b).1 != 0) (.ret (SV.tup [zeroA, eI (readI b).1], (⟨0, [], []⟩ : St))) (.ret (SV.tup [eImg (readI b).2, eI 0], (⟨0, [], []⟩ : St)))))
  refine .rnd fun ⟨h1, h2⟩ => ?_
  have h1 : u8s b = true := h1
  have h2 : b.length ≤ 1000000000 := h2
  refine Gives.of_eq (t' := .need (decide (((u8s b) = true) ∧ ((List.length b) ≤ 1000000000))) (.ite (((readT b)).1 != (0 : Int)) (.need true (.ret (.tup [.agg [.nil, .nil, .nil, .nil, .d (.v (.int .i64 (0 : Int))), .d (.v (.int .i64 (0 : Int))), .d (.v (.int .i64 (0 : Int))), .nil, .nil, .nil, .nil, .d (.v (.int .i64 (0 : Int))), .d (.v (.int .u16 (0 : Int)))], .c (.d (.v (.int .i64 ((readT b)).1)))], ⟨0, [], []⟩))) (.need (madeOk ((readT b)).2) (.ite (!((madeF ((readT b)).2)).1) (.need true (.ret (.tup [.agg [.nil, .nil, .nil, .nil, .d (.v (.int .i64 (0 : Int))), .d (.v (.int .i64 (0 : Int))), .d (.v (.int .i64 (0 : Int))), .nil, .nil, .nil, .nil, .d (.v (.int .i64 (0 : Int))), .d (.v (.int .u16 (0 : Int)))], .c (.d (.v (.int .i64 (4 : Int))))], ⟨0, [], []⟩))) (.need true (.ite ((writeE ((madeF ((readT b)).2)).2) != (0 : Int)) (.ite ((writeE ((madeF ((readT b)).2)).2) != (0 : Int)) (.need true (.ret (.tup [.agg [.nil, .nil, .nil, .nil, .d (.v (.int .i64 (0 : Int))), .d (.v (.int .i64 (0 : Int))), .d (.v (.int .i64 (0 : Int))), .nil, .nil, .nil, .nil, .d (.v (.int .i64 (0 : Int))), .d (.v (.int .u16 (0 : Int)))], .c (.d (.v (.int .i64 (4 : Int))))], ⟨0, [], []⟩))) (.need ((u8s ([] : List Int)) && (u8s b)) (.ite (!(([] : List Int) == b)) (.need true (.ret (.tup [.agg [.nil, .nil, .nil, .nil, .d (.v (.int .i64 (0 : Int))), .d (.v (.int .i64 (0 : Int))), .d (.v (.int .i64 (0 : Int))), .nil, .nil, .nil, .nil, .d (.v (.int .i64 (0 : Int))), .d (.v (.int .u16 (0 : Int)))], .c (.d (.v (.int .i64 (4 : Int))))], ⟨0, [], []⟩))) (.need true (.need true (.ret (.tup [.agg [.d (.sl tInst ((((madeF ((readT b)).2)).2).1).1), .d (.sl Ty.str ((((madeF ((readT b)).2)).2).1).2), .d (.sl tEnt (((((madeF ((readT b)).2)).2).2).1).1), .d (.sl tI ((((((madeF ((readT b)).2)).2).2).1).2).1), .d (.v (.int .i64 (((((((madeF ((readT b)).2)).2).2).1).2).2).1)), .d (.v (.int .i64 ((((((((madeF ((readT b)).2)).2).2).1).2).2).2).1)), .d (.v (.int .i64 ((((((((madeF ((readT b)).2)).2).2).1).2).2).2).2)), .d (.sl tB ((((((madeF ((readT b)).2)).2).2).2).1).1), .d (.sl tB (((((((madeF ((readT b)).2)).2).2).2).1).2).1), .d (.sl Ty.bool (((((((madeF ((readT b)).2)).2).2).2).1).2).2), .d (.sl tEv ((((((madeF ((readT b)).2)).2).2).2).2).1), .d (.v (.int .i64 (((((((madeF ((readT b)).2)).2).2).2).2).2).1)), .d (.v (.int .u16 (((((((madeF ((readT b)).2)).2).2).2).2).2).2))], .c (.d (.v (.int .i64 (0 : Int))))], ⟨0, [], []⟩))))))) (.ite false (.need true (.ret (.tup [.agg [.nil, .nil, .nil, .nil, .d (.v (.int .i64 (0 : Int))), .d (.v (.int .i64 (0 : Int))), .d (.v (.int .i64 (0 : Int))), .nil, .nil, .nil, .nil, .d (.v (.int .i64 (0 : Int))), .d (.v (.int .u16 (0 : Int)))], .c (.d (.v (.int .i64 (4 : Int))))], ⟨0, [], []⟩))) (.need ((u8s (writeB ((madeF ((readT b)).2)).2)) && (u8s b)) (.ite (!((writeB ((madeF ((readT b)).2)).2) == b)) (.need true (.ret (.tup [.agg [.nil, .nil, .nil, .nil, .d (.v (.int .i64 (0 : Int))), .d (.v (.int .i64 (0 : Int))), .d (.v (.int .i64 (0 : Int))), .nil, .nil, .nil, .nil, .d (.v (.int .i64 (0 : Int))), .d (.v (.int .u16 (0 : Int)))], .c (.d (.v (.int .i64 (4 : Int))))], ⟨0, [], []⟩))) (.need true (.need true (.ret (.tup [.agg [.d (.sl tInst ((((madeF ((readT b)).2)).2).1).1), .d (.sl Ty.str ((((madeF ((readT b)).2)).2).1).2), .d (.sl tEnt (((((madeF ((readT b)).2)).2).2).1).1), .d (.sl tI ((((((madeF ((readT b)).2)).2).2).1).2).1), .d (.v (.int .i64 (((((((madeF ((readT b)).2)).2).2).1).2).2).1)), .d (.v (.int .i64 ((((((((madeF ((readT b)).2)).2).2).1).2).2).2).1)), .d (.v (.int .i64 ((((((((madeF ((readT b)).2)).2).2).1).2).2).2).2)), .d (.sl tB ((((((madeF ((readT b)).2)).2).2).2).1).1), .d (.sl tB (((((((madeF ((readT b)).2)).2).2).2).1).2).1), .d (.sl Ty.bool (((((((madeF ((readT b)).2)).2).2).2).1).2).2), .d (.sl tEv ((((((madeF ((readT b)).2)).2).2).2).2).1), .d (.v (.int .i64 (((((((madeF ((readT b)).2)).2).2).2).2).2).1)), .d (.v (.int .u16 (((((((madeF ((readT b)).2)).2).2).2).2).2).2))], .c (.d (.v (.int .i64 (0 : Int))))], ⟨0, [], []⟩))))))))))))) (by kernel_rfl) ?_
  refine .nd ⟨h1, h2⟩ ?_
  unfold readI
  refine .ite (fun h => ?_) (fun h => ?_)
  · rw [if_pos (bne_iff_ne.1 h)]; exact .need rfl (.rtt h (.refl _))
  rw [if_neg (by have := bne_eq_false_iff_eq.1 h; exact fun h' => h' this)]
  have hmo := readT_made h1
  have hu := writeB_u8 (madeF_u8 hmo)
  generalize readT b = R at hmo hu ⊢
  obtain ⟨Re, Rl⟩ := R
  have hmo : madeOk Rl = true := hmo
  dsimp only at hu ⊢
  refine .need hmo ?_
  clear hmo
  generalize madeF Rl = m at hu ⊢
  obtain ⟨mk, m⟩ := m
  dsimp only at hu ⊢
  refine .ite (fun h => ?_) (fun h => ?_)
  · rw [if_pos (by rw [← Bool.not_eq_true']; exact h)]; exact .need rfl (.rtt rfl (.refl _))
  rw [if_neg (by rw [show mk = true by rw [← Bool.not_eq_false']; exact h]; simp)]
  refine .need rfl (.ite (fun h => ?_) (fun h => ?_))
  · rw [if_pos (.inl (bne_iff_ne.1 h))]
    exact .tt h (.need rfl (.rtt rfl (.refl _)))
  have hw : writeE m = 0 := bne_eq_false_iff_eq.1 h
  refine .ff rfl (.need (by rw [hu, h1]; rfl) (.ite (fun h' => ?_) (fun h' => ?_)))
  · rw [if_pos (.inr (by simpa using h'))]; exact .need rfl (.rtt rfl (.refl _))
  · rw [if_neg (by rw [not_or, Classical.not_not, Classical.not_not]; exact ⟨hw, by simpa using h'⟩)]
    exact .need rfl (.need rfl (.rff rfl (.refl _)))
theorem read_ok : CtrOk Tryd.prog 7 readCtr := by
  refine CtrOk.lessC read0_ok ?_
  rintro ⟨(b : List Int), ⟨⟩⟩
  show LessT _ (.need _ (.ret (SV.tup [eImg (readI b).2, eI (readI b).1], (⟨0, [], []⟩ : St))))
  refine .rneed fun h => .need h (.ite (fun hz => ?_) (fun hz => ?_))
  · have hz : ¬ (readI b).1 = 0 := bne_iff_ne.1 hz
    have : (readI b).2 = zeroImg := by
      unfold readI at hz ⊢
      split
      · rfl
      split
      · rfl
      split
      · rfl
      · rename_i h1 h2 h3; rw [if_neg h1, if_neg h2, if_neg h3] at hz; exact absurd rfl hz
    rw [this]
    exact .ret (Less.tup1 fun M β v hv => zero_img hv)
  · have hz : (readI b).1 = 0 := bne_eq_false_iff_eq.1 hz
    rw [hz]; exact .ret (.refl _)
end Go.Proofs.YtdngaaploooceaaDoor.Sy
