import Derived.Test.YtpolaeonmmolnaaLa
namespace Go.AI
open Go.Proofs
set_option linter.unusedVariables false
set_option linter.unusedSimpArgs false
def k86_0 : ACode := (.region (⟨(some 3), (.p (.foff 8 (.t 1))), none⟩ :: ⟨none, (.w (.store 1 (.t 3) (.c (.int .i64 0)))), none⟩ :: ⟨(some 4), (.p (.foff 9 (.t 1))), none⟩ :: ⟨none, (.w (.store 1 (.t 4) (.c (.int .i64 0)))), none⟩ :: []))
def k86_1 : ACode := (.seq k86_0 (.seq (.region (⟨(some 5), (.r (.load 12 true (.t 1))), none⟩ :: ⟨none, (.w (.store 12 (.t 2) (.t 5))), none⟩ :: [])) .ret))
def cd86 : ACode := (.seq (.region (⟨(some 1), (.a (.bx (.t 0))), none⟩ :: ⟨(some 2), (.a (.alloc [(.int .i64 0), (.int .i64 0), (.int .i64 0), (.int .i64 0), (.int .i64 0), (.int .i64 0), (.int .i64 0), (.int .i64 0), (.int .i64 0), (.int .i64 0), (.int .i64 0), (.bool false)])), none⟩ :: [])) k86_1)
def rs86 : List ARes := [(.cell 2 12 true)]
def af86 : AFn := ⟨cd86, rs86, 6⟩
theorem c86 : compF Try.prog 86 = some af86 := by kernel_rfl
noncomputable def g_order_settled (p_o : OrderT) : Option OrderT := (some (OrderT.mk p_o.Id p_o.Account p_o.Symbol p_o.Side p_o.Qty p_o.Price p_o.Filled p_o.Phase 0 0 p_o.Version p_o.Asked))
noncomputable def sp86 : List DV → Option DV := specT (fun (a : OrderT) => [.agg (e_OrderT a)]) (fun (r : OrderT) => .agg (e_OrderT r)) (fun (a : OrderT) => g_order_settled a)
theorem inj86 : ∀ (a b : OrderT), List.map z1 ((fun (a : OrderT) => [.agg (e_OrderT a)]) a) = List.map z1 ((fun (a : OrderT) => [.agg (e_OrderT a)]) b) → a = b := by
 intro a0 b0 h
 simp only [List.map_cons, List.map_nil, List.cons.injEq, and_true] at h
 exact (e_OrderT_inj (DV.agg.inj h))
set_option maxHeartbeats 1000000 in
theorem w86 {C : FuncId → Con} (hC : ConOk Try.prog C) : ValOk Try.prog 86 sp86 := by
 refine valT_of hC c86 _ _ _ inj86 ?_
 intro p_o
 show Imq (g_order_settled p_o) (fun _ => True) fun r => WP Try.prog C (fun _ => False) cd86 (retQ fun s => outV s rs86 = some (.agg (e_OrderT r))) ⟨⟨6, [(0, (.val (.agg [(.int .i64 p_o.Id), (.int .i64 p_o.Account), (.int .i64 p_o.Symbol), (.int .i64 p_o.Side), (.int .i64 p_o.Qty), (.int .i64 p_o.Price), (.int .i64 p_o.Filled), (.int .i64 p_o.Phase), (.int .i64 p_o.NewQty), (.int .i64 p_o.NewPrice), (.int .i64 p_o.Version), (.bool p_o.Asked)])))]⟩, mkH []⟩
 unfold g_order_settled
 refine G_seq ?_
 refine G_region ?_
 refine G_op [1001] (v := (.box [1001] 0)) (E_a (u := (.box [1001] 0)) (b := (.box (lOrderT p_o))) (h' := [([1001], (.box (lOrderT p_o)))]) (by kernel_rfl) (by kernel_rfl) (by kernel_rfl)) rfl rfl ?_
 refine G_op [1002] (v := (.box [1002] 0)) (E_a (u := (.box [1002] 0)) (b := (.box zOrderT)) (h' := [([1001], (.box (lOrderT p_o))), ([1002], (.box zOrderT))]) (by kernel_rfl) (by kernel_rfl) (by kernel_rfl)) rfl rfl ?_
 refine G_nil ?_
 refine G_then ?_
 refine G_seq ?_
 refine G_region ?_
 refine G_op [0] (v := (.box [1001] 8)) (E_p (by kernel_rfl)) rfl rfl ?_
 refine G_op0 [0] (v := (.val (.tup []))) (E_store (b := [1001]) (o := 8) (cs := [(ii 0)]) (cells := (lOrderT p_o)) (cells' := [(ii p_o.Id), (ii p_o.Account), (ii p_o.Symbol), (ii p_o.Side), (ii p_o.Qty), (ii p_o.Price), (ii p_o.Filled), (ii p_o.Phase), (ii 0), (ii p_o.NewPrice), (ii p_o.Version), (bb p_o.Asked)]) (h' := [([1001], (.box [(ii p_o.Id), (ii p_o.Account), (ii p_o.Symbol), (ii p_o.Side), (ii p_o.Qty), (ii p_o.Price), (ii p_o.Filled), (ii p_o.Phase), (ii 0), (ii p_o.NewPrice), (ii p_o.Version), (bb p_o.Asked)])), ([1002], (.box zOrderT))]) (by kernel_rfl) (by kernel_rfl) (by kernel_rfl) rfl (by kernel_rfl) (by kernel_rfl) (by kernel_rfl) (by kernel_rfl)) rfl ?_
 refine G_op [0] (v := (.box [1001] 9)) (E_p (by kernel_rfl)) rfl rfl ?_
 refine G_op0 [0] (v := (.val (.tup []))) (E_store (b := [1001]) (o := 9) (cs := [(ii 0)]) (cells := [(ii p_o.Id), (ii p_o.Account), (ii p_o.Symbol), (ii p_o.Side), (ii p_o.Qty), (ii p_o.Price), (ii p_o.Filled), (ii p_o.Phase), (ii 0), (ii p_o.NewPrice), (ii p_o.Version), (bb p_o.Asked)]) (cells' := [(ii p_o.Id), (ii p_o.Account), (ii p_o.Symbol), (ii p_o.Side), (ii p_o.Qty), (ii p_o.Price), (ii p_o.Filled), (ii p_o.Phase), (ii 0), (ii 0), (ii p_o.Version), (bb p_o.Asked)]) (h' := [([1001], (.box [(ii p_o.Id), (ii p_o.Account), (ii p_o.Symbol), (ii p_o.Side), (ii p_o.Qty), (ii p_o.Price), (ii p_o.Filled), (ii p_o.Phase), (ii 0), (ii 0), (ii p_o.Version), (bb p_o.Asked)])), ([1002], (.box zOrderT))]) (by kernel_rfl) (by kernel_rfl) (by kernel_rfl) rfl (by kernel_rfl) (by kernel_rfl) (by kernel_rfl) (by kernel_rfl)) rfl ?_
 refine G_nil ?_
 refine G_then ?_
 refine G_seq ?_
 refine G_region ?_
 refine G_op [0] (v := (.agg [(ii p_o.Id), (ii p_o.Account), (ii p_o.Symbol), (ii p_o.Side), (ii p_o.Qty), (ii p_o.Price), (ii p_o.Filled), (ii p_o.Phase), (ii 0), (ii 0), (ii p_o.Version), (bb p_o.Asked)])) (E_load (by kernel_rfl)) rfl rfl ?_
 refine G_op0 [0] (v := (.val (.tup []))) (E_store (b := [1002]) (o := 0) (cs := [(ii p_o.Id), (ii p_o.Account), (ii p_o.Symbol), (ii p_o.Side), (ii p_o.Qty), (ii p_o.Price), (ii p_o.Filled), (ii p_o.Phase), (ii 0), (ii 0), (ii p_o.Version), (bb p_o.Asked)]) (cells := zOrderT) (cells' := [(ii p_o.Id), (ii p_o.Account), (ii p_o.Symbol), (ii p_o.Side), (ii p_o.Qty), (ii p_o.Price), (ii p_o.Filled), (ii p_o.Phase), (ii 0), (ii 0), (ii p_o.Version), (bb p_o.Asked)]) (h' := [([1001], (.box [(ii p_o.Id), (ii p_o.Account), (ii p_o.Symbol), (ii p_o.Side), (ii p_o.Qty), (ii p_o.Price), (ii p_o.Filled), (ii p_o.Phase), (ii 0), (ii 0), (ii p_o.Version), (bb p_o.Asked)])), ([1002], (.box [(ii p_o.Id), (ii p_o.Account), (ii p_o.Symbol), (ii p_o.Side), (ii p_o.Qty), (ii p_o.Price), (ii p_o.Filled), (ii p_o.Phase), (ii 0), (ii 0), (ii p_o.Version), (bb p_o.Asked)]))]) (by kernel_rfl) (by kernel_rfl) (by kernel_rfl) rfl (by kernel_rfl) (by kernel_rfl) (by kernel_rfl) (by kernel_rfl)) rfl ?_
 refine G_nil ?_
 refine G_then ?_
 refine G_ret ?_
 refine G_retR ?_
 refine q_some fun hA => ?_
 show outV _ _ = some _
 kernel_rfl
theorem s86 (x0 : OrderT) (ds : List DV) (hd : List.map z1 ds = List.map z1 [.agg (e_OrderT x0)]) : sp86 ds = (g_order_settled x0).map fun r => .agg (e_OrderT r) :=
 specT_at (ea := fun (a : OrderT) => [.agg (e_OrderT a)]) (eb := fun (r : OrderT) => .agg (e_OrderT r)) (g := fun (a : OrderT) => g_order_settled a) inj86 x0 hd

def k85_0 : ACode := (.seq (.region (⟨(some 4), (.r (.load 12 true (.t 1))), none⟩ :: ⟨(some 5), (.r (.call 86 [(.t 4)])), none⟩ :: ⟨none, (.w (.store 12 (.t 2) (.t 5))), none⟩ :: [])) .ret)
def k85_1 : ACode := (.seq (.region (⟨(some 3), (.p (.foff 7 (.t 1))), none⟩ :: ⟨none, (.w (.store 1 (.t 3) (.c (.int .i64 3)))), none⟩ :: [])) k85_0)
def cd85 : ACode := (.seq (.region (⟨(some 1), (.a (.bx (.t 0))), none⟩ :: ⟨(some 2), (.a (.alloc [(.int .i64 0), (.int .i64 0), (.int .i64 0), (.int .i64 0), (.int .i64 0), (.int .i64 0), (.int .i64 0), (.int .i64 0), (.int .i64 0), (.int .i64 0), (.int .i64 0), (.bool false)])), none⟩ :: [])) k85_1)
def rs85 : List ARes := [(.cell 2 12 true)]
def af85 : AFn := ⟨cd85, rs85, 6⟩
theorem c85 : compF Try.prog 85 = some af85 := by kernel_rfl
noncomputable def g_order_done (p_o : OrderT) : Option OrderT := (Option.bind (g_order_settled (OrderT.mk p_o.Id p_o.Account p_o.Symbol p_o.Side p_o.Qty p_o.Price p_o.Filled 3 p_o.NewQty p_o.NewPrice p_o.Version p_o.Asked)) fun v1 => (some v1))
noncomputable def sp85 : List DV → Option DV := specT (fun (a : OrderT) => [.agg (e_OrderT a)]) (fun (r : OrderT) => .agg (e_OrderT r)) (fun (a : OrderT) => g_order_done a)
theorem inj85 : ∀ (a b : OrderT), List.map z1 ((fun (a : OrderT) => [.agg (e_OrderT a)]) a) = List.map z1 ((fun (a : OrderT) => [.agg (e_OrderT a)]) b) → a = b := by
 intro a0 b0 h
 simp only [List.map_cons, List.map_nil, List.cons.injEq, and_true] at h
 exact (e_OrderT_inj (DV.agg.inj h))
set_option maxHeartbeats 1000000 in
theorem w85 {C : FuncId → Con} (hC : ConOk Try.prog C) {q86 : List DV → Option DV} (hc86 : C 86 = .val q86) (hs86 : ∀ (x0 : OrderT) (ds : List DV), List.map z1 ds = List.map z1 [.agg (e_OrderT x0)] → q86 ds = (g_order_settled x0).map fun r => .agg (e_OrderT r)) : ValOk Try.prog 85 sp85 := by
 refine valT_of hC c85 _ _ _ inj85 ?_
 intro p_o
 show Imq (g_order_done p_o) (fun _ => True) fun r => WP Try.prog C (fun _ => False) cd85 (retQ fun s => outV s rs85 = some (.agg (e_OrderT r))) ⟨⟨6, [(0, (.val (.agg [(.int .i64 p_o.Id), (.int .i64 p_o.Account), (.int .i64 p_o.Symbol), (.int .i64 p_o.Side), (.int .i64 p_o.Qty), (.int .i64 p_o.Price), (.int .i64 p_o.Filled), (.int .i64 p_o.Phase), (.int .i64 p_o.NewQty), (.int .i64 p_o.NewPrice), (.int .i64 p_o.Version), (.bool p_o.Asked)])))]⟩, mkH []⟩
 unfold g_order_done
 refine G_seq ?_
 refine G_region ?_
 refine G_op [1001] (v := (.box [1001] 0)) (E_a (u := (.box [1001] 0)) (b := (.box (lOrderT p_o))) (h' := [([1001], (.box (lOrderT p_o)))]) (by kernel_rfl) (by kernel_rfl) (by kernel_rfl)) rfl rfl ?_
 refine G_op [1002] (v := (.box [1002] 0)) (E_a (u := (.box [1002] 0)) (b := (.box zOrderT)) (h' := [([1001], (.box (lOrderT p_o))), ([1002], (.box zOrderT))]) (by kernel_rfl) (by kernel_rfl) (by kernel_rfl)) rfl rfl ?_
 refine G_nil ?_
 refine G_then ?_
 refine G_seq ?_
 refine G_region ?_
 refine G_op [0] (v := (.box [1001] 7)) (E_p (by kernel_rfl)) rfl rfl ?_
 refine G_op0 [0] (v := (.val (.tup []))) (E_store (b := [1001]) (o := 7) (cs := [(ii 3)]) (cells := (lOrderT p_o)) (cells' := [(ii p_o.Id), (ii p_o.Account), (ii p_o.Symbol), (ii p_o.Side), (ii p_o.Qty), (ii p_o.Price), (ii p_o.Filled), (ii 3), (ii p_o.NewQty), (ii p_o.NewPrice), (ii p_o.Version), (bb p_o.Asked)]) (h' := [([1001], (.box [(ii p_o.Id), (ii p_o.Account), (ii p_o.Symbol), (ii p_o.Side), (ii p_o.Qty), (ii p_o.Price), (ii p_o.Filled), (ii 3), (ii p_o.NewQty), (ii p_o.NewPrice), (ii p_o.Version), (bb p_o.Asked)])), ([1002], (.box zOrderT))]) (by kernel_rfl) (by kernel_rfl) (by kernel_rfl) rfl (by kernel_rfl) (by kernel_rfl) (by kernel_rfl) (by kernel_rfl)) rfl ?_
 refine G_nil ?_
 refine G_then ?_
 refine G_seq ?_
 refine G_region ?_
 refine G_op [0] (v := (.agg [(ii p_o.Id), (ii p_o.Account), (ii p_o.Symbol), (ii p_o.Side), (ii p_o.Qty), (ii p_o.Price), (ii p_o.Filled), (ii 3), (ii p_o.NewQty), (ii p_o.NewPrice), (ii p_o.Version), (bb p_o.Asked)])) (E_load (by kernel_rfl)) rfl rfl ?_
 refine q_bind fun v1 hv1 => ?_
 refine G_op [0] (v := (.val (.agg [(.int .i64 v1.Id), (.int .i64 v1.Account), (.int .i64 v1.Symbol), (.int .i64 v1.Side), (.int .i64 v1.Qty), (.int .i64 v1.Price), (.int .i64 v1.Filled), (.int .i64 v1.Phase), (.int .i64 v1.NewQty), (.int .i64 v1.NewPrice), (.int .i64 v1.Version), (.bool v1.Asked)]))) (E_call (ds := [.agg (e_OrderT (OrderT.mk p_o.Id p_o.Account p_o.Symbol p_o.Side p_o.Qty p_o.Price p_o.Filled 3 p_o.NewQty p_o.NewPrice p_o.Version p_o.Asked))]) (r := .agg (e_OrderT v1)) hc86 (by kernel_rfl) ((hs86 (OrderT.mk p_o.Id p_o.Account p_o.Symbol p_o.Side p_o.Qty p_o.Price p_o.Filled 3 p_o.NewQty p_o.NewPrice p_o.Version p_o.Asked) _ (by kernel_rfl)).trans (congrArg _ hv1))) rfl rfl ?_
 refine G_op0 [0] (v := (.val (.tup []))) (E_store (b := [1002]) (o := 0) (cs := (lOrderT v1)) (cells := zOrderT) (cells' := (lOrderT v1)) (h' := [([1001], (.box [(ii p_o.Id), (ii p_o.Account), (ii p_o.Symbol), (ii p_o.Side), (ii p_o.Qty), (ii p_o.Price), (ii p_o.Filled), (ii 3), (ii p_o.NewQty), (ii p_o.NewPrice), (ii p_o.Version), (bb p_o.Asked)])), ([1002], (.box (lOrderT v1)))]) (by kernel_rfl) (by kernel_rfl) (by kernel_rfl) rfl (by kernel_rfl) (by kernel_rfl) (by kernel_rfl) (by kernel_rfl)) rfl ?_
 refine G_nil ?_
 refine G_then ?_
 refine G_ret ?_
 refine G_retR ?_
 refine q_some fun hA => ?_
 show outV _ _ = some _
 kernel_rfl
theorem s85 (x0 : OrderT) (ds : List DV) (hd : List.map z1 ds = List.map z1 [.agg (e_OrderT x0)]) : sp85 ds = (g_order_done x0).map fun r => .agg (e_OrderT r) :=
 specT_at (ea := fun (a : OrderT) => [.agg (e_OrderT a)]) (eb := fun (r : OrderT) => .agg (e_OrderT r)) (g := fun (a : OrderT) => g_order_done a) inj85 x0 hd

def k70_0 : ACode := (.region (⟨(some 2), (.a (.bx (.t 0))), none⟩ :: ⟨(some 3), (.a (.bx (.t 1))), none⟩ :: ⟨(some 4), (.a (.alloc [(.int .i64 0), (.int .i64 0), (.int .i64 0), (.int .i64 0), (.int .i64 0), (.int .i64 0), (.int .i64 0), (.int .i64 0), (.int .i64 0), (.int .i64 0), (.int .i64 0), (.bool false)])), none⟩ :: ⟨(some 5), (.p (.mv (.c (.bool false)))), none⟩ :: []))
def k70_1 : ACode := (.seq (.region (⟨(some 11), (.r (.load 12 true (.t 2))), none⟩ :: ⟨none, (.w (.store 12 (.t 4) (.t 11))), none⟩ :: ⟨(some 5), (.p (.mv (.c (.bool true)))), none⟩ :: [])) .ret)
def k70_2 : ACode := (.seq (.region (⟨(some 10), (.p (.foff 7 (.t 2))), none⟩ :: ⟨none, (.w (.store 1 (.t 10) (.c (.int .i64 2)))), none⟩ :: [])) k70_1)
def k70_3 : ACode := (.region (⟨(some 14), (.r (.load 12 true (.t 2))), none⟩ :: ⟨(some 15), (.r (.call 85 [(.t 14)])), none⟩ :: ⟨none, (.w (.store 12 (.t 4) (.t 15))), none⟩ :: ⟨(some 5), (.p (.mv (.c (.bool true)))), none⟩ :: []))
def k70_4 : ACode := (.seq k70_3 .ret)
def k70_5 : ACode := (.cond (.t 12) k70_4 .skip)
def k70_6 : ACode := (.seq (.region (⟨(some 13), (.p (.bin .eql (.t 7) (.c (.int .i64 2)))), none⟩ :: ⟨(some 12), (.p (.mv (.t 13))), none⟩ :: [])) k70_5)
def k70_7 : ACode := (.cond (.t 8) k70_2 k70_6)
def k70_8 : ACode := (.seq (.region (⟨(some 9), (.p (.bin .eql (.t 7) (.c (.int .i64 1)))), none⟩ :: ⟨(some 8), (.p (.mv (.t 9))), none⟩ :: [])) k70_7)
def k70_9 : ACode := (.block 0 k70_8)
def k70_10 : ACode := (.seq (.region (⟨(some 6), (.p (.foff 1 (.t 3))), none⟩ :: ⟨(some 7), (.r (.load 1 false (.t 6))), none⟩ :: [])) k70_9)
def k70_11 : ACode := (.seq (.region (⟨(some 16), (.r (.load 12 true (.t 2))), none⟩ :: ⟨none, (.w (.store 12 (.t 4) (.t 16))), none⟩ :: ⟨(some 5), (.p (.mv (.c (.bool false)))), none⟩ :: [])) .ret)
def k70_12 : ACode := (.seq k70_10 k70_11)
def cd70 : ACode := (.seq k70_0 k70_12)
def rs70 : List ARes := [(.cell 4 12 true), (.tmp 5)]
def af70 : AFn := ⟨cd70, rs70, 17⟩
theorem c70 : compF Try.prog 70 = some af70 := by kernel_rfl
noncomputable def g_order_sent (p_o : OrderT) (p_n : NoteT) : Option (OrderT × Bool) := (bif (p_n.What == 1) then (some ((OrderT.mk p_o.Id p_o.Account p_o.Symbol p_o.Side p_o.Qty p_o.Price p_o.Filled 2 p_o.NewQty p_o.NewPrice p_o.Version p_o.Asked), true)) else (bif (p_n.What == 2) then (Option.bind (g_order_done p_o) fun v1 => (some (v1, true))) else (some (p_o, false))))
noncomputable def sp70 : List DV → Option DV := specT (fun (a : OrderT × NoteT) => [.agg (e_OrderT a.1), .agg (e_NoteT a.2)]) (fun (r : (OrderT × Bool)) => .tup [.agg (e_OrderT r.1), .bool r.2]) (fun (a : OrderT × NoteT) => g_order_sent a.1 a.2)
theorem inj70 : ∀ (a b : OrderT × NoteT), List.map z1 ((fun (a : OrderT × NoteT) => [.agg (e_OrderT a.1), .agg (e_NoteT a.2)]) a) = List.map z1 ((fun (a : OrderT × NoteT) => [.agg (e_OrderT a.1), .agg (e_NoteT a.2)]) b) → a = b := by
 rintro ⟨a0, a1⟩ ⟨b0, b1⟩ h
 simp only [List.map_cons, List.map_nil, List.cons.injEq, and_true] at h
 obtain ⟨h0, h1⟩ := h
 exact (pair_eq (e_OrderT_inj (DV.agg.inj h0)) (e_NoteT_inj (DV.agg.inj h1)))
set_option maxHeartbeats 1000000 in
theorem w70 {C : FuncId → Con} (hC : ConOk Try.prog C) {q85 : List DV → Option DV} (hc85 : C 85 = .val q85) (hs85 : ∀ (x0 : OrderT) (ds : List DV), List.map z1 ds = List.map z1 [.agg (e_OrderT x0)] → q85 ds = (g_order_done x0).map fun r => .agg (e_OrderT r)) : ValOk Try.prog 70 sp70 := by
 refine valT_of hC c70 _ _ _ inj70 ?_
 rintro ⟨p_o, p_n⟩
 show Imq (g_order_sent p_o p_n) (fun _ => True) fun r => WP Try.prog C (fun _ => False) cd70 (retQ fun s => outV s rs70 = some (.tup [.agg (e_OrderT r.1), .bool r.2])) ⟨⟨17, [(0, (.val (.agg [(.int .i64 p_o.Id), (.int .i64 p_o.Account), (.int .i64 p_o.Symbol), (.int .i64 p_o.Side), (.int .i64 p_o.Qty), (.int .i64 p_o.Price), (.int .i64 p_o.Filled), (.int .i64 p_o.Phase), (.int .i64 p_o.NewQty), (.int .i64 p_o.NewPrice), (.int .i64 p_o.Version), (.bool p_o.Asked)]))), (1, (.val (.agg [(.int .i64 p_n.Seq), (.int .i64 p_n.What), (.int .i64 p_n.Order), (.int .i64 p_n.Qty), (.int .i64 p_n.Price)])))]⟩, mkH []⟩
 unfold g_order_sent
 refine G_seq ?_
 refine G_region ?_
 refine G_op [1001] (v := (.box [1001] 0)) (E_a (u := (.box [1001] 0)) (b := (.box (lOrderT p_o))) (h' := [([1001], (.box (lOrderT p_o)))]) (by kernel_rfl) (by kernel_rfl) (by kernel_rfl)) rfl rfl ?_
 refine G_op [1002] (v := (.box [1002] 0)) (E_a (u := (.box [1002] 0)) (b := (.box (lNoteT p_n))) (h' := [([1001], (.box (lOrderT p_o))), ([1002], (.box (lNoteT p_n)))]) (by kernel_rfl) (by kernel_rfl) (by kernel_rfl)) rfl rfl ?_
 refine G_op [1003] (v := (.box [1003] 0)) (E_a (u := (.box [1003] 0)) (b := (.box zOrderT)) (h' := [([1001], (.box (lOrderT p_o))), ([1002], (.box (lNoteT p_n))), ([1003], (.box zOrderT))]) (by kernel_rfl) (by kernel_rfl) (by kernel_rfl)) rfl rfl ?_
 refine G_op [0] (v := (bb false)) (E_p (by kernel_rfl)) rfl rfl ?_
 refine G_nil ?_
 refine G_then ?_
 refine G_seq ?_
 refine G_seq ?_
 refine G_region ?_
 refine G_op [0] (v := (.box [1002] 1)) (E_p (by kernel_rfl)) rfl rfl ?_
 refine G_op [0] (v := (ii p_n.What)) (E_load (by kernel_rfl)) rfl rfl ?_
 refine G_nil ?_
 refine G_then ?_
 refine G_block ?_
 refine G_seq ?_
 refine G_region ?_
 refine G_op [0] (v := (bb ((p_n.What == 1)))) (E_p (by kernel_rfl)) rfl rfl ?_
 refine G_op [0] (v := (bb ((p_n.What == 1)))) (E_p (by kernel_rfl)) rfl rfl ?_
 refine G_nil ?_
 refine G_then ?_
 refine G_cond (t := (p_n.What == 1)) (by kernel_rfl) (fun _ => ?_) (fun _ => ?_)
 ·refine G_seq ?_
  refine G_region ?_
  refine G_op [0] (v := (.box [1001] 7)) (E_p (by kernel_rfl)) rfl rfl ?_
  refine G_op0 [0] (v := (.val (.tup []))) (E_store (b := [1001]) (o := 7) (cs := [(ii 2)]) (cells := (lOrderT p_o)) (cells' := [(ii p_o.Id), (ii p_o.Account), (ii p_o.Symbol), (ii p_o.Side), (ii p_o.Qty), (ii p_o.Price), (ii p_o.Filled), (ii 2), (ii p_o.NewQty), (ii p_o.NewPrice), (ii p_o.Version), (bb p_o.Asked)]) (h' := [([1001], (.box [(ii p_o.Id), (ii p_o.Account), (ii p_o.Symbol), (ii p_o.Side), (ii p_o.Qty), (ii p_o.Price), (ii p_o.Filled), (ii 2), (ii p_o.NewQty), (ii p_o.NewPrice), (ii p_o.Version), (bb p_o.Asked)])), ([1002], (.box (lNoteT p_n))), ([1003], (.box zOrderT))]) (by kernel_rfl) (by kernel_rfl) (by kernel_rfl) rfl (by kernel_rfl) (by kernel_rfl) (by kernel_rfl) (by kernel_rfl)) rfl ?_
  refine G_nil ?_
  refine G_then ?_
  refine G_seq ?_
  refine G_region ?_
  refine G_op [0] (v := (.agg [(ii p_o.Id), (ii p_o.Account), (ii p_o.Symbol), (ii p_o.Side), (ii p_o.Qty), (ii p_o.Price), (ii p_o.Filled), (ii 2), (ii p_o.NewQty), (ii p_o.NewPrice), (ii p_o.Version), (bb p_o.Asked)])) (E_load (by kernel_rfl)) rfl rfl ?_
  refine G_op0 [0] (v := (.val (.tup []))) (E_store (b := [1003]) (o := 0) (cs := [(ii p_o.Id), (ii p_o.Account), (ii p_o.Symbol), (ii p_o.Side), (ii p_o.Qty), (ii p_o.Price), (ii p_o.Filled), (ii 2), (ii p_o.NewQty), (ii p_o.NewPrice), (ii p_o.Version), (bb p_o.Asked)]) (cells := zOrderT) (cells' := [(ii p_o.Id), (ii p_o.Account), (ii p_o.Symbol), (ii p_o.Side), (ii p_o.Qty), (ii p_o.Price), (ii p_o.Filled), (ii 2), (ii p_o.NewQty), (ii p_o.NewPrice), (ii p_o.Version), (bb p_o.Asked)]) (h' := [([1001], (.box [(ii p_o.Id), (ii p_o.Account), (ii p_o.Symbol), (ii p_o.Side), (ii p_o.Qty), (ii p_o.Price), (ii p_o.Filled), (ii 2), (ii p_o.NewQty), (ii p_o.NewPrice), (ii p_o.Version), (bb p_o.Asked)])), ([1002], (.box (lNoteT p_n))), ([1003], (.box [(ii p_o.Id), (ii p_o.Account), (ii p_o.Symbol), (ii p_o.Side), (ii p_o.Qty), (ii p_o.Price), (ii p_o.Filled), (ii 2), (ii p_o.NewQty), (ii p_o.NewPrice), (ii p_o.Version), (bb p_o.Asked)]))]) (by kernel_rfl) (by kernel_rfl) (by kernel_rfl) rfl (by kernel_rfl) (by kernel_rfl) (by kernel_rfl) (by kernel_rfl)) rfl ?_
  refine G_op [0] (v := (bb true)) (E_p (by kernel_rfl)) rfl rfl ?_
  refine G_nil ?_
  refine G_then ?_
  refine G_subW (s0 := ⟨⟨17, [(5, (bb true)), (4, (.box [1003] 0)), (2, (.box [1001] 0))]⟩, mkH [([1001], (.box [(ii p_o.Id), (ii p_o.Account), (ii p_o.Symbol), (ii p_o.Side), (ii p_o.Qty), (ii p_o.Price), (ii p_o.Filled), (ii 2), (ii p_o.NewQty), (ii p_o.NewPrice), (ii p_o.Version), (bb p_o.Asked)])), ([1003], (.box [(ii p_o.Id), (ii p_o.Account), (ii p_o.Symbol), (ii p_o.Side), (ii p_o.Qty), (ii p_o.Price), (ii p_o.Filled), (ii 2), (ii p_o.NewQty), (ii p_o.NewPrice), (ii p_o.Version), (bb p_o.Asked)]))]⟩) (by exact Sub_keep ⟨.refl _, .refl _, .refl _, trivial⟩ ⟨⟨_, (by kernel_rfl), .refl _⟩, ⟨_, (by kernel_rfl), .refl _⟩, trivial⟩ (by kernel_rfl) (by kernel_rfl)) ?_
  refine G_ret ?_
  refine G_inBR ?_
  refine G_thenR ?_
  refine G_retR ?_
  refine q_some fun hA => ?_
  show outV _ _ = some _
  kernel_rfl
 ·refine G_seq ?_
  refine G_region ?_
  refine G_op [0] (v := (bb ((p_n.What == 2)))) (E_p (by kernel_rfl)) rfl rfl ?_
  refine G_op [0] (v := (bb ((p_n.What == 2)))) (E_p (by kernel_rfl)) rfl rfl ?_
  refine G_nil ?_
  refine G_then ?_
  refine G_cond (t := (p_n.What == 2)) (by kernel_rfl) (fun _ => ?_) (fun _ => ?_)
  ·refine G_seq ?_
   refine G_region ?_
   refine G_op [0] (v := (.agg (lOrderT p_o))) (E_load (by kernel_rfl)) rfl rfl ?_
   refine q_bind fun v1 hv1 => ?_
   refine G_op [0] (v := (.val (.agg [(.int .i64 v1.Id), (.int .i64 v1.Account), (.int .i64 v1.Symbol), (.int .i64 v1.Side), (.int .i64 v1.Qty), (.int .i64 v1.Price), (.int .i64 v1.Filled), (.int .i64 v1.Phase), (.int .i64 v1.NewQty), (.int .i64 v1.NewPrice), (.int .i64 v1.Version), (.bool v1.Asked)]))) (E_call (ds := [.agg (e_OrderT p_o)]) (r := .agg (e_OrderT v1)) hc85 (by kernel_rfl) ((hs85 p_o _ (by kernel_rfl)).trans (congrArg _ hv1))) rfl rfl ?_
   refine G_op0 [0] (v := (.val (.tup []))) (E_store (b := [1003]) (o := 0) (cs := (lOrderT v1)) (cells := zOrderT) (cells' := (lOrderT v1)) (h' := [([1001], (.box (lOrderT p_o))), ([1002], (.box (lNoteT p_n))), ([1003], (.box (lOrderT v1)))]) (by kernel_rfl) (by kernel_rfl) (by kernel_rfl) rfl (by kernel_rfl) (by kernel_rfl) (by kernel_rfl) (by kernel_rfl)) rfl ?_
   refine G_op [0] (v := (bb true)) (E_p (by kernel_rfl)) rfl rfl ?_
   refine G_nil ?_
   refine G_then ?_
   refine G_subW (s0 := ⟨⟨17, [(5, (bb true)), (4, (.box [1003] 0)), (2, (.box [1001] 0))]⟩, mkH [([1001], (.box (lOrderT p_o))), ([1003], (.box (lOrderT v1)))]⟩) (by exact Sub_keep ⟨.refl _, .refl _, .refl _, trivial⟩ ⟨⟨_, (by kernel_rfl), .refl _⟩, ⟨_, (by kernel_rfl), .refl _⟩, trivial⟩ (by kernel_rfl) (by kernel_rfl)) ?_
   refine G_ret ?_
   refine G_inBR ?_
   refine G_thenR ?_
   refine G_retR ?_
   refine q_some fun hA => ?_
   show outV _ _ = some _
   kernel_rfl
  ·refine G_skip ?_
   refine G_inB ?_
   refine G_then ?_
   refine G_subW (s0 := ⟨⟨17, [(5, (bb false)), (4, (.box [1003] 0)), (2, (.box [1001] 0))]⟩, mkH [([1001], (.box (lOrderT p_o))), ([1003], (.box zOrderT))]⟩) (by exact Sub_keep ⟨.refl _, .refl _, .refl _, trivial⟩ ⟨⟨_, (by kernel_rfl), .refl _⟩, ⟨_, (by kernel_rfl), .refl _⟩, trivial⟩ (by kernel_rfl) (by kernel_rfl)) ?_
   refine G_seq ?_
   refine G_region ?_
   refine G_op [0] (v := (.agg (lOrderT p_o))) (E_load (by kernel_rfl)) rfl rfl ?_
   refine G_op0 [0] (v := (.val (.tup []))) (E_store (b := [1003]) (o := 0) (cs := (lOrderT p_o)) (cells := zOrderT) (cells' := (lOrderT p_o)) (h' := [([1001], (.box (lOrderT p_o))), ([1003], (.box (lOrderT p_o)))]) (by kernel_rfl) (by kernel_rfl) (by kernel_rfl) rfl (by kernel_rfl) (by kernel_rfl) (by kernel_rfl) (by kernel_rfl)) rfl ?_
   refine G_op [0] (v := (bb false)) (E_p (by kernel_rfl)) rfl rfl ?_
   refine G_nil ?_
   refine G_then ?_
   refine G_ret ?_
   refine G_retR ?_
   refine q_some fun hA => ?_
   show outV _ _ = some _
   kernel_rfl
theorem s70 (x0 : OrderT) (x1 : NoteT) (ds : List DV) (hd : List.map z1 ds = List.map z1 [.agg (e_OrderT x0), .agg (e_NoteT x1)]) : sp70 ds = (g_order_sent x0 x1).map fun r => .tup [.agg (e_OrderT r.1), .bool r.2] :=
 specT_at (ea := fun (a : OrderT × NoteT) => [.agg (e_OrderT a.1), .agg (e_NoteT a.2)]) (eb := fun (r : (OrderT × Bool)) => .tup [.agg (e_OrderT r.1), .bool r.2]) (g := fun (a : OrderT × NoteT) => g_order_sent a.1 a.2) inj70 (x0, x1) hd

def t71_1 : List AIns := (⟨(some 56), (.p (.mv (.t 55))), none⟩ :: ⟨(some 57), (.p (.foff 3 (.t 3))), (some (56, false))⟩ :: ⟨(some 58), (.r (.load 1 false (.t 57))), (some (56, false))⟩ :: ⟨(some 59), (.p (.foff 6 (.t 2))), (some (56, false))⟩ :: ⟨(some 60), (.r (.load 1 false (.t 59))), (some (56, false))⟩ :: ⟨(some 61), (.p (.bin .leq (.t 58) (.t 60))), (some (56, false))⟩ :: ⟨(some 62), (.p (.pick (.t 56) (.c (.bool true)) (.t 61))), none⟩ :: [])
def t71_0 : List AIns := (⟨(some 49), (.p (.mv (.t 48))), none⟩ :: ⟨(some 50), (.p (.foff 4 (.t 3))), (some (49, false))⟩ :: ⟨(some 51), (.r (.load 1 false (.t 50))), (some (49, false))⟩ :: ⟨(some 52), (.p (.foff 9 (.t 2))), (some (49, false))⟩ :: ⟨(some 53), (.r (.load 1 false (.t 52))), (some (49, false))⟩ :: ⟨(some 54), (.p (.bin .neq (.t 51) (.t 53))), (some (49, false))⟩ :: ⟨(some 55), (.p (.pick (.t 49) (.c (.bool true)) (.t 54))), none⟩ :: t71_1)
def k71_0 : ACode := (.region (⟨(some 2), (.a (.bx (.t 0))), none⟩ :: ⟨(some 3), (.a (.bx (.t 1))), none⟩ :: ⟨(some 4), (.a (.alloc [(.int .i64 0), (.int .i64 0), (.int .i64 0), (.int .i64 0), (.int .i64 0), (.int .i64 0), (.int .i64 0), (.int .i64 0), (.int .i64 0), (.int .i64 0), (.int .i64 0), (.bool false)])), none⟩ :: ⟨(some 5), (.p (.mv (.c (.bool false)))), none⟩ :: []))
def k71_1 : ACode := (.seq (.region (⟨(some 9), (.p (.bin .eql (.t 7) (.c (.int .i64 3)))), none⟩ :: ⟨(some 8), (.p (.mv (.t 9))), none⟩ :: [])) (.cond (.t 8) (.exit 1) .skip))
def k71_2 : ACode := (.seq (.region (⟨(some 11), (.p (.bin .eql (.t 7) (.c (.int .i64 4)))), none⟩ :: ⟨(some 10), (.p (.mv (.t 11))), none⟩ :: [])) (.cond (.t 10) (.exit 2) .skip))
def k71_3 : ACode := (.seq (.region (⟨(some 13), (.p (.bin .eql (.t 7) (.c (.int .i64 5)))), none⟩ :: ⟨(some 12), (.p (.mv (.t 13))), none⟩ :: [])) (.cond (.t 12) (.exit 3) .skip))
def k71_4 : ACode := (.seq (.region (⟨(some 15), (.p (.bin .eql (.t 7) (.c (.int .i64 6)))), none⟩ :: ⟨(some 14), (.p (.mv (.t 15))), none⟩ :: [])) (.cond (.t 14) (.exit 4) .skip))
def k71_5 : ACode := (.seq k71_3 k71_4)
def k71_6 : ACode := (.seq k71_2 k71_5)
def k71_7 : ACode := (.seq k71_1 k71_6)
def k71_8 : ACode := (.seq k71_7 (.exit 0))
def k71_9 : ACode := (.block 1 k71_8)
def k71_10 : ACode := (.region (⟨(some 16), (.p (.foff 3 (.t 3))), none⟩ :: ⟨(some 17), (.r (.load 1 false (.t 16))), none⟩ :: ⟨(some 18), (.p (.foff 4 (.t 2))), none⟩ :: ⟨(some 19), (.r (.load 1 false (.t 18))), none⟩ :: ⟨(some 20), (.p (.foff 6 (.t 2))), none⟩ :: ⟨(some 21), (.r (.load 1 false (.t 20))), none⟩ :: ⟨(some 22), (.p (.bin .sub (.t 19) (.t 21))), none⟩ :: ⟨(some 23), (.p (.bin .gtr (.t 17) (.t 22))), none⟩ :: []))
def k71_11 : ACode := (.seq (.region (⟨(some 24), (.r (.load 12 true (.t 2))), none⟩ :: ⟨none, (.w (.store 12 (.t 4) (.t 24))), none⟩ :: ⟨(some 5), (.p (.mv (.c (.bool false)))), none⟩ :: [])) .ret)
def k71_12 : ACode := (.cond (.t 23) k71_11 .skip)
def k71_13 : ACode := (.seq k71_10 k71_12)
def k71_14 : ACode := (.region (⟨(some 25), (.p (.foff 6 (.t 2))), none⟩ :: ⟨(some 26), (.r (.load 1 false (.t 25))), none⟩ :: ⟨(some 27), (.p (.foff 3 (.t 3))), none⟩ :: ⟨(some 28), (.r (.load 1 false (.t 27))), none⟩ :: ⟨(some 29), (.p (.bin .add (.t 26) (.t 28))), none⟩ :: ⟨(some 30), (.p (.foff 6 (.t 2))), none⟩ :: ⟨none, (.w (.store 1 (.t 30) (.t 29))), none⟩ :: []))
def k71_15 : ACode := (.region (⟨(some 31), (.p (.foff 6 (.t 2))), none⟩ :: ⟨(some 32), (.r (.load 1 false (.t 31))), none⟩ :: ⟨(some 33), (.p (.foff 4 (.t 2))), none⟩ :: ⟨(some 34), (.r (.load 1 false (.t 33))), none⟩ :: ⟨(some 35), (.p (.bin .lss (.t 32) (.t 34))), none⟩ :: []))
def k71_16 : ACode := (.seq (.region (⟨(some 36), (.r (.load 12 true (.t 2))), none⟩ :: ⟨none, (.w (.store 12 (.t 4) (.t 36))), none⟩ :: ⟨(some 5), (.p (.mv (.c (.bool true)))), none⟩ :: [])) .ret)
def k71_17 : ACode := (.cond (.t 35) k71_16 .skip)
def k71_18 : ACode := (.seq k71_15 k71_17)
def k71_19 : ACode := (.seq k71_14 k71_18)
def k71_20 : ACode := (.seq k71_13 k71_19)
def k71_21 : ACode := (.seq k71_9 k71_20)
def k71_22 : ACode := (.block 2 k71_21)
def k71_23 : ACode := (.region (⟨(some 37), (.r (.load 12 true (.t 2))), none⟩ :: ⟨(some 38), (.r (.call 85 [(.t 37)])), none⟩ :: ⟨none, (.w (.store 12 (.t 4) (.t 38))), none⟩ :: ⟨(some 5), (.p (.mv (.c (.bool true)))), none⟩ :: []))
def k71_24 : ACode := (.seq k71_23 .ret)
def k71_25 : ACode := (.seq k71_24 (.exit 0))
def k71_26 : ACode := (.seq k71_22 k71_25)
def k71_27 : ACode := (.block 3 k71_26)
def k71_28 : ACode := (.region (⟨(some 39), (.r (.load 12 true (.t 2))), none⟩ :: ⟨(some 40), (.r (.call 67 [(.t 39)])), none⟩ :: ⟨(some 41), (.p (.un .not (.t 40))), none⟩ :: ⟨(some 42), (.p (.mv (.t 41))), none⟩ :: ⟨(some 43), (.p (.foff 3 (.t 3))), (some (42, false))⟩ :: ⟨(some 44), (.r (.load 1 false (.t 43))), (some (42, false))⟩ :: ⟨(some 45), (.p (.foff 8 (.t 2))), (some (42, false))⟩ :: ⟨(some 46), (.r (.load 1 false (.t 45))), (some (42, false))⟩ :: ⟨(some 47), (.p (.bin .neq (.t 44) (.t 46))), (some (42, false))⟩ :: ⟨(some 48), (.p (.pick (.t 42) (.c (.bool true)) (.t 47))), none⟩ :: t71_0))
def k71_29 : ACode := (.seq (.region (⟨(some 63), (.r (.load 12 true (.t 2))), none⟩ :: ⟨none, (.w (.store 12 (.t 4) (.t 63))), none⟩ :: ⟨(some 5), (.p (.mv (.c (.bool false)))), none⟩ :: [])) .ret)
def k71_30 : ACode := (.cond (.t 62) k71_29 .skip)
def k71_31 : ACode := (.seq k71_28 k71_30)
def k71_32 : ACode := (.drawA (⟨(some 64), (.p (.foff 3 (.t 3))), none⟩ :: ⟨(some 65), (.r (.load 1 false (.t 64))), none⟩ :: ⟨(some 66), (.p (.foff 4 (.t 3))), none⟩ :: ⟨(some 67), (.r (.load 1 false (.t 66))), none⟩ :: ⟨(some 68), (.p (.foff 4 (.t 2))), none⟩ :: ⟨none, (.w (.store 1 (.t 68) (.t 65))), none⟩ :: ⟨(some 69), (.p (.foff 5 (.t 2))), none⟩ :: ⟨none, (.w (.store 1 (.t 69) (.t 67))), none⟩ :: []) [(69, 2), (68, 2), (2, 2), (66, 3), (64, 3), (3, 3)] [(3, 2), (3, 2), (3, 2), (3, 2)])
def k71_33 : ACode := (.region (⟨(some 70), (.r (.load 12 true (.t 2))), none⟩ :: ⟨(some 71), (.r (.call 86 [(.t 70)])), none⟩ :: ⟨none, (.w (.store 12 (.t 4) (.t 71))), none⟩ :: ⟨(some 5), (.p (.mv (.c (.bool true)))), none⟩ :: []))
def k71_34 : ACode := (.seq k71_33 .ret)
def k71_35 : ACode := (.seq k71_32 k71_34)
def k71_36 : ACode := (.seq k71_31 k71_35)
def k71_37 : ACode := (.seq k71_36 (.exit 0))
def k71_38 : ACode := (.seq k71_27 k71_37)
def k71_39 : ACode := (.block 4 k71_38)
def k71_40 : ACode := (.draw (⟨(some 72), (.r (.load 12 true (.t 2))), none⟩ :: ⟨(some 73), (.r (.call 86 [(.t 72)])), none⟩ :: ⟨(some 74), (.r (.load 12 true (.t 2))), none⟩ :: ⟨(some 75), (.r (.call 67 [(.t 74)])), none⟩ :: ⟨none, (.w (.store 12 (.t 4) (.t 73))), none⟩ :: ⟨(some 5), (.p (.mv (.t 75))), none⟩ :: []))
def k71_41 : ACode := (.seq k71_40 .ret)
def k71_42 : ACode := (.seq k71_41 (.exit 0))
def k71_43 : ACode := (.seq k71_39 k71_42)
def k71_44 : ACode := (.block 0 k71_43)
def k71_45 : ACode := (.seq (.region (⟨(some 6), (.p (.foff 1 (.t 3))), none⟩ :: ⟨(some 7), (.r (.load 1 false (.t 6))), none⟩ :: [])) k71_44)
def k71_46 : ACode := (.seq (.region (⟨(some 76), (.r (.load 12 true (.t 2))), none⟩ :: ⟨none, (.w (.store 12 (.t 4) (.t 76))), none⟩ :: ⟨(some 5), (.p (.mv (.c (.bool false)))), none⟩ :: [])) .ret)
def k71_47 : ACode := (.seq k71_45 k71_46)
def cd71 : ACode := (.seq k71_0 k71_47)
def rs71 : List ARes := [(.cell 4 12 true), (.tmp 5)]
def af71 : AFn := ⟨cd71, rs71, 77⟩
theorem c71 : compF Try.prog 71 = some af71 := by kernel_rfl
noncomputable def g_order_live (p_o : OrderT) (p_n : NoteT) : Option (OrderT × Bool) := (bif (p_n.What == 3) then (bif (decide (p_n.Qty > (IntKind.wrap .i64 (p_o.Qty - p_o.Filled)))) then (some (p_o, false)) else (bif (decide ((IntKind.wrap .i64 (p_o.Filled + p_n.Qty)) < p_o.Qty)) then (some ((OrderT.mk p_o.Id p_o.Account p_o.Symbol p_o.Side p_o.Qty p_o.Price (IntKind.wrap .i64 (p_o.Filled + p_n.Qty)) p_o.Phase p_o.NewQty p_o.NewPrice p_o.Version p_o.Asked), true)) else (Option.bind (g_order_done (OrderT.mk p_o.Id p_o.Account p_o.Symbol p_o.Side p_o.Qty p_o.Price (IntKind.wrap .i64 (p_o.Filled + p_n.Qty)) p_o.Phase p_o.NewQty p_o.NewPrice p_o.Version p_o.Asked)) fun v1 => (some (v1, true))))) else (bif (p_n.What == 4) then (Option.bind (g_order_done p_o) fun v2 => (some (v2, true))) else (bif (p_n.What == 5) then (Option.bind (g_order_pending p_o) fun v3 => (bif ((((!v3) || (p_n.Qty != p_o.NewQty)) || (p_n.Price != p_o.NewPrice)) || (decide (p_n.Qty ≤ p_o.Filled))) then (some (p_o, false)) else (Option.bind (g_order_settled (OrderT.mk p_o.Id p_o.Account p_o.Symbol p_o.Side p_n.Qty p_n.Price p_o.Filled p_o.Phase p_o.NewQty p_o.NewPrice p_o.Version p_o.Asked)) fun v13 => (some (v13, true))))) else (bif (p_n.What == 6) then (Option.bind (g_order_settled p_o) fun v14 => (Option.bind (g_order_pending p_o) fun v15 => (some (v14, v15)))) else (some (p_o, false))))))
noncomputable def sp71 : List DV → Option DV := specT (fun (a : OrderT × NoteT) => [.agg (e_OrderT a.1), .agg (e_NoteT a.2)]) (fun (r : (OrderT × Bool)) => .tup [.agg (e_OrderT r.1), .bool r.2]) (fun (a : OrderT × NoteT) => g_order_live a.1 a.2)
theorem inj71 : ∀ (a b : OrderT × NoteT), List.map z1 ((fun (a : OrderT × NoteT) => [.agg (e_OrderT a.1), .agg (e_NoteT a.2)]) a) = List.map z1 ((fun (a : OrderT × NoteT) => [.agg (e_OrderT a.1), .agg (e_NoteT a.2)]) b) → a = b := by
 rintro ⟨a0, a1⟩ ⟨b0, b1⟩ h
 simp only [List.map_cons, List.map_nil, List.cons.injEq, and_true] at h
 obtain ⟨h0, h1⟩ := h
 exact (pair_eq (e_OrderT_inj (DV.agg.inj h0)) (e_NoteT_inj (DV.agg.inj h1)))
set_option maxHeartbeats 1000000 in
theorem w71 {C : FuncId → Con} (hC : ConOk Try.prog C) {q85 : List DV → Option DV} (hc85 : C 85 = .val q85) (hs85 : ∀ (x0 : OrderT) (ds : List DV), List.map z1 ds = List.map z1 [.agg (e_OrderT x0)] → q85 ds = (g_order_done x0).map fun r => .agg (e_OrderT r)) {q67 : List DV → Option DV} (hc67 : C 67 = .val q67) (hs67 : ∀ (x0 : OrderT) (ds : List DV), List.map z1 ds = List.map z1 [.agg (e_OrderT x0)] → q67 ds = (g_order_pending x0).map fun r => .bool r) {q86 : List DV → Option DV} (hc86 : C 86 = .val q86) (hs86 : ∀ (x0 : OrderT) (ds : List DV), List.map z1 ds = List.map z1 [.agg (e_OrderT x0)] → q86 ds = (g_order_settled x0).map fun r => .agg (e_OrderT r)) : ValOk Try.prog 71 sp71 := by
 refine valT_of hC c71 _ _ _ inj71 ?_
 rintro ⟨p_o, p_n⟩
 show Imq (g_order_live p_o p_n) (fun _ => True) fun r => WP Try.prog C (fun _ => False) cd71 (retQ fun s => outV s rs71 = some (.tup [.agg (e_OrderT r.1), .bool r.2])) ⟨⟨77, [(0, (.val (.agg [(.int .i64 p_o.Id), (.int .i64 p_o.Account), (.int .i64 p_o.Symbol), (.int .i64 p_o.Side), (.int .i64 p_o.Qty), (.int .i64 p_o.Price), (.int .i64 p_o.Filled), (.int .i64 p_o.Phase), (.int .i64 p_o.NewQty), (.int .i64 p_o.NewPrice), (.int .i64 p_o.Version), (.bool p_o.Asked)]))), (1, (.val (.agg [(.int .i64 p_n.Seq), (.int .i64 p_n.What), (.int .i64 p_n.Order), (.int .i64 p_n.Qty), (.int .i64 p_n.Price)])))]⟩, mkH []⟩
 unfold g_order_live
 refine G_seq ?_
 refine G_region ?_
 refine G_op [1001] (v := (.box [1001] 0)) (E_a (u := (.box [1001] 0)) (b := (.box (lOrderT p_o))) (h' := [([1001], (.box (lOrderT p_o)))]) (by kernel_rfl) (by kernel_rfl) (by kernel_rfl)) rfl rfl ?_
 refine G_op [1002] (v := (.box [1002] 0)) (E_a (u := (.box [1002] 0)) (b := (.box (lNoteT p_n))) (h' := [([1001], (.box (lOrderT p_o))), ([1002], (.box (lNoteT p_n)))]) (by kernel_rfl) (by kernel_rfl) (by kernel_rfl)) rfl rfl ?_
 refine G_op [1003] (v := (.box [1003] 0)) (E_a (u := (.box [1003] 0)) (b := (.box zOrderT)) (h' := [([1001], (.box (lOrderT p_o))), ([1002], (.box (lNoteT p_n))), ([1003], (.box zOrderT))]) (by kernel_rfl) (by kernel_rfl) (by kernel_rfl)) rfl rfl ?_
 refine G_op [0] (v := (bb false)) (E_p (by kernel_rfl)) rfl rfl ?_
 refine G_nil ?_
 refine G_then ?_
 refine G_seq ?_
 refine G_seq ?_
 refine G_region ?_
 refine G_op [0] (v := (.box [1002] 1)) (E_p (by kernel_rfl)) rfl rfl ?_
 refine G_op [0] (v := (ii p_n.What)) (E_load (by kernel_rfl)) rfl rfl ?_
 refine G_nil ?_
 refine G_then ?_
 refine G_block ?_
 refine G_seq ?_
 refine G_block ?_
 refine G_seq ?_
 refine G_block ?_
 refine G_seq ?_
 refine G_block ?_
 refine G_seq ?_
 refine G_block ?_
 refine G_seq ?_
 refine G_seq ?_
 refine G_seq ?_
 refine G_region ?_
 refine G_op [0] (v := (bb ((p_n.What == 3)))) (E_p (by kernel_rfl)) rfl rfl ?_
 refine G_op [0] (v := (bb ((p_n.What == 3)))) (E_p (by kernel_rfl)) rfl rfl ?_
 refine G_nil ?_
 refine G_then ?_
 refine G_cond (t := (p_n.What == 3)) (by kernel_rfl) (fun _ => ?_) (fun _ => ?_)
 ·refine G_exit ?_
  refine G_thenX ?_
  refine G_thenX ?_
  refine G_inBX ?_
  refine G_then ?_
  refine G_seq ?_
  refine G_seq ?_
  refine G_region ?_
  refine G_op [0] (v := (.box [1002] 3)) (E_p (by kernel_rfl)) rfl rfl ?_
  refine G_op [0] (v := (ii p_n.Qty)) (E_load (by kernel_rfl)) rfl rfl ?_
  refine G_op [0] (v := (.box [1001] 4)) (E_p (by kernel_rfl)) rfl rfl ?_
  refine G_op [0] (v := (ii p_o.Qty)) (E_load (by kernel_rfl)) rfl rfl ?_
  refine G_op [0] (v := (.box [1001] 6)) (E_p (by kernel_rfl)) rfl rfl ?_
  refine G_op [0] (v := (ii p_o.Filled)) (E_load (by kernel_rfl)) rfl rfl ?_
  refine G_op [0] (v := (ii ((IntKind.wrap .i64 (p_o.Qty - p_o.Filled))))) (E_p (by kernel_rfl)) rfl rfl ?_
  refine G_op [0] (v := (bb ((decide (p_n.Qty > (IntKind.wrap .i64 (p_o.Qty - p_o.Filled))))))) (E_p (by kernel_rfl)) rfl rfl ?_
  refine G_nil ?_
  refine G_then ?_
  refine G_subW (s0 := ⟨⟨77, [(23, (bb ((decide (p_n.Qty > (IntKind.wrap .i64 (p_o.Qty - p_o.Filled))))))), (5, (bb false)), (4, (.box [1003] 0)), (3, (.box [1002] 0)), (2, (.box [1001] 0))]⟩, mkH [([1001], (.box (lOrderT p_o))), ([1002], (.box (lNoteT p_n))), ([1003], (.box zOrderT))]⟩) (by exact Sub_env ⟨.refl _, .refl _, .refl _, .refl _, .refl _, trivial⟩) ?_
  refine G_cond (t := (decide (p_n.Qty > (IntKind.wrap .i64 (p_o.Qty - p_o.Filled))))) (by kernel_rfl) (fun _ => ?_) (fun _ => ?_)
  ·refine G_seq ?_
   refine G_region ?_
   refine G_op [0] (v := (.agg (lOrderT p_o))) (E_load (by kernel_rfl)) rfl rfl ?_
   refine G_op0 [0] (v := (.val (.tup []))) (E_store (b := [1003]) (o := 0) (cs := (lOrderT p_o)) (cells := zOrderT) (cells' := (lOrderT p_o)) (h' := [([1001], (.box (lOrderT p_o))), ([1002], (.box (lNoteT p_n))), ([1003], (.box (lOrderT p_o)))]) (by kernel_rfl) (by kernel_rfl) (by kernel_rfl) rfl (by kernel_rfl) (by kernel_rfl) (by kernel_rfl) (by kernel_rfl)) rfl ?_
   refine G_op [0] (v := (bb false)) (E_p (by kernel_rfl)) rfl rfl ?_
   refine G_nil ?_
   refine G_then ?_
   refine G_ret ?_
   refine G_thenR ?_
   refine G_inBR ?_
   refine G_thenR ?_
   refine G_inBR ?_
   refine G_thenR ?_
   refine G_inBR ?_
   refine G_thenR ?_
   refine G_inBR ?_
   refine G_thenR ?_
   refine G_retR ?_
   refine q_some fun hA => ?_
   show outV _ _ = some _
   kernel_rfl
  ·refine G_skip ?_
   refine G_then ?_
   refine G_seq ?_
   refine G_region ?_
   refine G_op [0] (v := (.box [1001] 6)) (E_p (by kernel_rfl)) rfl rfl ?_
   refine G_op [0] (v := (ii p_o.Filled)) (E_load (by kernel_rfl)) rfl rfl ?_
   refine G_op [0] (v := (.box [1002] 3)) (E_p (by kernel_rfl)) rfl rfl ?_
   refine G_op [0] (v := (ii p_n.Qty)) (E_load (by kernel_rfl)) rfl rfl ?_
   refine G_op [0] (v := (ii ((IntKind.wrap .i64 (p_o.Filled + p_n.Qty))))) (E_p (by kernel_rfl)) rfl rfl ?_
   refine G_op [0] (v := (.box [1001] 6)) (E_p (by kernel_rfl)) rfl rfl ?_
   refine G_op0 [0] (v := (.val (.tup []))) (E_store (b := [1001]) (o := 6) (cs := [(ii ((IntKind.wrap .i64 (p_o.Filled + p_n.Qty))))]) (cells := (lOrderT p_o)) (cells' := [(ii p_o.Id), (ii p_o.Account), (ii p_o.Symbol), (ii p_o.Side), (ii p_o.Qty), (ii p_o.Price), (ii ((IntKind.wrap .i64 (p_o.Filled + p_n.Qty)))), (ii p_o.Phase), (ii p_o.NewQty), (ii p_o.NewPrice), (ii p_o.Version), (bb p_o.Asked)]) (h' := [([1001], (.box [(ii p_o.Id), (ii p_o.Account), (ii p_o.Symbol), (ii p_o.Side), (ii p_o.Qty), (ii p_o.Price), (ii ((IntKind.wrap .i64 (p_o.Filled + p_n.Qty)))), (ii p_o.Phase), (ii p_o.NewQty), (ii p_o.NewPrice), (ii p_o.Version), (bb p_o.Asked)])), ([1002], (.box (lNoteT p_n))), ([1003], (.box zOrderT))]) (by kernel_rfl) (by kernel_rfl) (by kernel_rfl) rfl (by kernel_rfl) (by kernel_rfl) (by kernel_rfl) (by kernel_rfl)) rfl ?_
   refine G_nil ?_
   refine G_then ?_
   refine G_seq ?_
   refine G_region ?_
   refine G_op [0] (v := (.box [1001] 6)) (E_p (by kernel_rfl)) rfl rfl ?_
   refine G_op [0] (v := (ii ((IntKind.wrap .i64 (p_o.Filled + p_n.Qty))))) (E_load (by kernel_rfl)) rfl rfl ?_
   refine G_op [0] (v := (.box [1001] 4)) (E_p (by kernel_rfl)) rfl rfl ?_
   refine G_op [0] (v := (ii p_o.Qty)) (E_load (by kernel_rfl)) rfl rfl ?_
   refine G_op [0] (v := (bb ((decide ((IntKind.wrap .i64 (p_o.Filled + p_n.Qty)) < p_o.Qty))))) (E_p (by kernel_rfl)) rfl rfl ?_
   refine G_nil ?_
   refine G_then ?_
   refine G_subW (s0 := ⟨⟨77, [(35, (bb ((decide ((IntKind.wrap .i64 (p_o.Filled + p_n.Qty)) < p_o.Qty))))), (5, (bb false)), (4, (.box [1003] 0)), (3, (.box [1002] 0)), (2, (.box [1001] 0))]⟩, mkH [([1001], (.box [(ii p_o.Id), (ii p_o.Account), (ii p_o.Symbol), (ii p_o.Side), (ii p_o.Qty), (ii p_o.Price), (ii ((IntKind.wrap .i64 (p_o.Filled + p_n.Qty)))), (ii p_o.Phase), (ii p_o.NewQty), (ii p_o.NewPrice), (ii p_o.Version), (bb p_o.Asked)])), ([1002], (.box (lNoteT p_n))), ([1003], (.box zOrderT))]⟩) (by exact Sub_env ⟨.refl _, .refl _, .refl _, .refl _, .refl _, trivial⟩) ?_
   refine G_cond (t := (decide ((IntKind.wrap .i64 (p_o.Filled + p_n.Qty)) < p_o.Qty))) (by kernel_rfl) (fun _ => ?_) (fun _ => ?_)
   ·refine G_seq ?_
    refine G_region ?_
    refine G_op [0] (v := (.agg [(ii p_o.Id), (ii p_o.Account), (ii p_o.Symbol), (ii p_o.Side), (ii p_o.Qty), (ii p_o.Price), (ii ((IntKind.wrap .i64 (p_o.Filled + p_n.Qty)))), (ii p_o.Phase), (ii p_o.NewQty), (ii p_o.NewPrice), (ii p_o.Version), (bb p_o.Asked)])) (E_load (by kernel_rfl)) rfl rfl ?_
    refine G_op0 [0] (v := (.val (.tup []))) (E_store (b := [1003]) (o := 0) (cs := [(ii p_o.Id), (ii p_o.Account), (ii p_o.Symbol), (ii p_o.Side), (ii p_o.Qty), (ii p_o.Price), (ii ((IntKind.wrap .i64 (p_o.Filled + p_n.Qty)))), (ii p_o.Phase), (ii p_o.NewQty), (ii p_o.NewPrice), (ii p_o.Version), (bb p_o.Asked)]) (cells := zOrderT) (cells' := [(ii p_o.Id), (ii p_o.Account), (ii p_o.Symbol), (ii p_o.Side), (ii p_o.Qty), (ii p_o.Price), (ii ((IntKind.wrap .i64 (p_o.Filled + p_n.Qty)))), (ii p_o.Phase), (ii p_o.NewQty), (ii p_o.NewPrice), (ii p_o.Version), (bb p_o.Asked)]) (h' := [([1001], (.box [(ii p_o.Id), (ii p_o.Account), (ii p_o.Symbol), (ii p_o.Side), (ii p_o.Qty), (ii p_o.Price), (ii ((IntKind.wrap .i64 (p_o.Filled + p_n.Qty)))), (ii p_o.Phase), (ii p_o.NewQty), (ii p_o.NewPrice), (ii p_o.Version), (bb p_o.Asked)])), ([1002], (.box (lNoteT p_n))), ([1003], (.box [(ii p_o.Id), (ii p_o.Account), (ii p_o.Symbol), (ii p_o.Side), (ii p_o.Qty), (ii p_o.Price), (ii ((IntKind.wrap .i64 (p_o.Filled + p_n.Qty)))), (ii p_o.Phase), (ii p_o.NewQty), (ii p_o.NewPrice), (ii p_o.Version), (bb p_o.Asked)]))]) (by kernel_rfl) (by kernel_rfl) (by kernel_rfl) rfl (by kernel_rfl) (by kernel_rfl) (by kernel_rfl) (by kernel_rfl)) rfl ?_
    refine G_op [0] (v := (bb true)) (E_p (by kernel_rfl)) rfl rfl ?_
    refine G_nil ?_
    refine G_then ?_
    refine G_ret ?_
    refine G_inBR ?_
    refine G_thenR ?_
    refine G_inBR ?_
    refine G_thenR ?_
    refine G_inBR ?_
    refine G_thenR ?_
    refine G_inBR ?_
    refine G_thenR ?_
    refine G_retR ?_
    refine q_some fun hA => ?_
    show outV _ _ = some _
    kernel_rfl
   ·refine G_skip ?_
    refine G_inB ?_
    refine G_then ?_
    refine G_seq ?_
    refine G_seq ?_
    refine G_region ?_
    refine G_op [0] (v := (.agg [(ii p_o.Id), (ii p_o.Account), (ii p_o.Symbol), (ii p_o.Side), (ii p_o.Qty), (ii p_o.Price), (ii ((IntKind.wrap .i64 (p_o.Filled + p_n.Qty)))), (ii p_o.Phase), (ii p_o.NewQty), (ii p_o.NewPrice), (ii p_o.Version), (bb p_o.Asked)])) (E_load (by kernel_rfl)) rfl rfl ?_
    refine q_bind fun v1 hv1 => ?_
    refine G_op [0] (v := (.val (.agg [(.int .i64 v1.Id), (.int .i64 v1.Account), (.int .i64 v1.Symbol), (.int .i64 v1.Side), (.int .i64 v1.Qty), (.int .i64 v1.Price), (.int .i64 v1.Filled), (.int .i64 v1.Phase), (.int .i64 v1.NewQty), (.int .i64 v1.NewPrice), (.int .i64 v1.Version), (.bool v1.Asked)]))) (E_call (ds := [.agg (e_OrderT (OrderT.mk p_o.Id p_o.Account p_o.Symbol p_o.Side p_o.Qty p_o.Price (IntKind.wrap .i64 (p_o.Filled + p_n.Qty)) p_o.Phase p_o.NewQty p_o.NewPrice p_o.Version p_o.Asked))]) (r := .agg (e_OrderT v1)) hc85 (by kernel_rfl) ((hs85 (OrderT.mk p_o.Id p_o.Account p_o.Symbol p_o.Side p_o.Qty p_o.Price (IntKind.wrap .i64 (p_o.Filled + p_n.Qty)) p_o.Phase p_o.NewQty p_o.NewPrice p_o.Version p_o.Asked) _ (by kernel_rfl)).trans (congrArg _ hv1))) rfl rfl ?_
    refine G_op0 [0] (v := (.val (.tup []))) (E_store (b := [1003]) (o := 0) (cs := (lOrderT v1)) (cells := zOrderT) (cells' := (lOrderT v1)) (h' := [([1001], (.box [(ii p_o.Id), (ii p_o.Account), (ii p_o.Symbol), (ii p_o.Side), (ii p_o.Qty), (ii p_o.Price), (ii ((IntKind.wrap .i64 (p_o.Filled + p_n.Qty)))), (ii p_o.Phase), (ii p_o.NewQty), (ii p_o.NewPrice), (ii p_o.Version), (bb p_o.Asked)])), ([1002], (.box (lNoteT p_n))), ([1003], (.box (lOrderT v1)))]) (by kernel_rfl) (by kernel_rfl) (by kernel_rfl) rfl (by kernel_rfl) (by kernel_rfl) (by kernel_rfl) (by kernel_rfl)) rfl ?_
    refine G_op [0] (v := (bb true)) (E_p (by kernel_rfl)) rfl rfl ?_
    refine G_nil ?_
    refine G_then ?_
    refine G_ret ?_
    refine G_thenR ?_
    refine G_inBR ?_
    refine G_thenR ?_
    refine G_inBR ?_
    refine G_thenR ?_
    refine G_inBR ?_
    refine G_thenR ?_
    refine G_retR ?_
    refine q_some fun hA => ?_
    show outV _ _ = some _
    kernel_rfl
 ·refine G_skip ?_
  refine G_then ?_
  refine G_seq ?_
  refine G_seq ?_
  refine G_region ?_
  refine G_op [0] (v := (bb ((p_n.What == 4)))) (E_p (by kernel_rfl)) rfl rfl ?_
  refine G_op [0] (v := (bb ((p_n.What == 4)))) (E_p (by kernel_rfl)) rfl rfl ?_
  refine G_nil ?_
  refine G_then ?_
  refine G_cond (t := (p_n.What == 4)) (by kernel_rfl) (fun _ => ?_) (fun _ => ?_)
  ·refine G_exit ?_
   refine G_thenX ?_
   refine G_thenX ?_
   refine G_inBO rfl ?_
   refine G_thenX ?_
   refine G_inBX ?_
   refine G_then ?_
   refine G_seq ?_
   refine G_seq ?_
   refine G_region ?_
   refine G_op [0] (v := (.agg (lOrderT p_o))) (E_load (by kernel_rfl)) rfl rfl ?_
   refine q_bind fun v2 hv2 => ?_
   refine G_op [0] (v := (.val (.agg [(.int .i64 v2.Id), (.int .i64 v2.Account), (.int .i64 v2.Symbol), (.int .i64 v2.Side), (.int .i64 v2.Qty), (.int .i64 v2.Price), (.int .i64 v2.Filled), (.int .i64 v2.Phase), (.int .i64 v2.NewQty), (.int .i64 v2.NewPrice), (.int .i64 v2.Version), (.bool v2.Asked)]))) (E_call (ds := [.agg (e_OrderT p_o)]) (r := .agg (e_OrderT v2)) hc85 (by kernel_rfl) ((hs85 p_o _ (by kernel_rfl)).trans (congrArg _ hv2))) rfl rfl ?_
   refine G_op0 [0] (v := (.val (.tup []))) (E_store (b := [1003]) (o := 0) (cs := (lOrderT v2)) (cells := zOrderT) (cells' := (lOrderT v2)) (h' := [([1001], (.box (lOrderT p_o))), ([1002], (.box (lNoteT p_n))), ([1003], (.box (lOrderT v2)))]) (by kernel_rfl) (by kernel_rfl) (by kernel_rfl) rfl (by kernel_rfl) (by kernel_rfl) (by kernel_rfl) (by kernel_rfl)) rfl ?_
   refine G_op [0] (v := (bb true)) (E_p (by kernel_rfl)) rfl rfl ?_
   refine G_nil ?_
   refine G_then ?_
   refine G_subW (s0 := ⟨⟨77, [(5, (bb true)), (4, (.box [1003] 0)), (3, (.box [1002] 0)), (2, (.box [1001] 0))]⟩, mkH [([1001], (.box (lOrderT p_o))), ([1002], (.box (lNoteT p_n))), ([1003], (.box (lOrderT v2)))]⟩) (by exact Sub_env ⟨.refl _, .refl _, .refl _, .refl _, trivial⟩) ?_
   refine G_ret ?_
   refine G_thenR ?_
   refine G_inBR ?_
   refine G_thenR ?_
   refine G_inBR ?_
   refine G_thenR ?_
   refine G_inBR ?_
   refine G_thenR ?_
   refine G_retR ?_
   refine q_some fun hA => ?_
   show outV _ _ = some _
   kernel_rfl
  ·refine G_skip ?_
   refine G_then ?_
   refine G_seq ?_
   refine G_seq ?_
   refine G_region ?_
   refine G_op [0] (v := (bb ((p_n.What == 5)))) (E_p (by kernel_rfl)) rfl rfl ?_
   refine G_op [0] (v := (bb ((p_n.What == 5)))) (E_p (by kernel_rfl)) rfl rfl ?_
   refine G_nil ?_
   refine G_then ?_
   refine G_cond (t := (p_n.What == 5)) (by kernel_rfl) (fun _ => ?_) (fun _ => ?_)
   ·refine G_exit ?_
    refine G_thenX ?_
    refine G_thenX ?_
    refine G_inBO rfl ?_
    refine G_thenX ?_
    refine G_inBO rfl ?_
    refine G_thenX ?_
    refine G_inBX ?_
    refine G_then ?_
    refine G_subW (s0 := ⟨⟨77, [(5, (bb false)), (4, (.box [1003] 0)), (3, (.box [1002] 0)), (2, (.box [1001] 0))]⟩, mkH [([1001], (.box (lOrderT p_o))), ([1002], (.box (lNoteT p_n))), ([1003], (.box zOrderT))]⟩) (by exact Sub_env ⟨.refl _, .refl _, .refl _, .refl _, trivial⟩) ?_
    refine G_seq ?_
    refine G_seq ?_
    refine G_seq ?_
    refine G_region ?_
    refine G_op [0] (v := (.agg (lOrderT p_o))) (E_load (by kernel_rfl)) rfl rfl ?_
    refine q_bind fun v3 hv3 => ?_
    refine G_op [0] (v := (bb v3)) (E_call (ds := [.agg (e_OrderT p_o)]) (r := .bool v3) hc67 (by kernel_rfl) ((hs67 p_o _ (by kernel_rfl)).trans (congrArg _ hv3))) rfl rfl ?_
    refine G_op [0] (v := (bb ((!v3)))) (E_p (by kernel_rfl)) rfl rfl ?_
    refine G_op [0] (v := (bb ((!v3)))) (E_p (by kernel_rfl)) rfl rfl ?_
    refine G_pure (l := t71_0) (st := ⟨⟨77, [(48, (bb (((!v3) || (p_n.Qty != p_o.NewQty))))), (5, (bb false)), (4, (.box [1003] 0)), (3, (.box [1002] 0)), (2, (.box [1001] 0))]⟩, mkH [([1001], (.box (lOrderT p_o))), ([1002], (.box (lNoteT p_n))), ([1003], (.box zOrderT))]⟩) ?_ (fun r6 => ?_)
    ·refine G_op [0] (v := (bb (((!v3) || (p_n.Qty != p_o.NewQty))))) (E_p (by kernel_rfl)) rfl rfl ?_
     refine G_pure (l := t71_1) (st := ⟨⟨77, [(55, (bb ((((!v3) || (p_n.Qty != p_o.NewQty)) || (p_n.Price != p_o.NewPrice))))), (5, (bb false)), (4, (.box [1003] 0)), (3, (.box [1002] 0)), (2, (.box [1001] 0))]⟩, mkH [([1001], (.box (lOrderT p_o))), ([1002], (.box (lNoteT p_n))), ([1003], (.box zOrderT))]⟩) ?_ (fun r9 => ?_)
     ·refine G_op [0] (v := (bb ((((!v3) || (p_n.Qty != p_o.NewQty)) || (p_n.Price != p_o.NewPrice))))) (E_p (by kernel_rfl)) rfl rfl ?_
      refine G_pure (l := []) (st := ⟨⟨77, [(62, (bb (((((!v3) || (p_n.Qty != p_o.NewQty)) || (p_n.Price != p_o.NewPrice)) || (decide (p_n.Qty ≤ p_o.Filled)))))), (5, (bb false)), (4, (.box [1003] 0)), (3, (.box [1002] 0)), (2, (.box [1001] 0))]⟩, mkH [([1001], (.box (lOrderT p_o))), ([1002], (.box (lNoteT p_n))), ([1003], (.box zOrderT))]⟩) ?_ (fun r12 => ?_)
      ·refine G_nil ?_
       refine G_then ?_
       refine G_cond (t := ((((!v3) || (p_n.Qty != p_o.NewQty)) || (p_n.Price != p_o.NewPrice)) || (decide (p_n.Qty ≤ p_o.Filled)))) (by kernel_rfl) (fun _ => ?_) (fun _ => ?_)
       ·refine G_seq ?_
        refine G_region ?_
        refine G_op [0] (v := (.agg (lOrderT p_o))) (E_load (by kernel_rfl)) rfl rfl ?_
        refine G_op0 [0] (v := (.val (.tup []))) (E_store (b := [1003]) (o := 0) (cs := (lOrderT p_o)) (cells := zOrderT) (cells' := (lOrderT p_o)) (h' := [([1001], (.box (lOrderT p_o))), ([1002], (.box (lNoteT p_n))), ([1003], (.box (lOrderT p_o)))]) (by kernel_rfl) (by kernel_rfl) (by kernel_rfl) rfl (by kernel_rfl) (by kernel_rfl) (by kernel_rfl) (by kernel_rfl)) rfl ?_
        refine G_op [0] (v := (bb false)) (E_p (by kernel_rfl)) rfl rfl ?_
        refine G_nil ?_
        refine G_then ?_
        refine G_ret ?_
        refine G_thenR ?_
        refine G_thenR ?_
        refine G_inBR ?_
        refine G_thenR ?_
        refine G_inBR ?_
        refine G_thenR ?_
        refine G_retR ?_
        refine q_some fun hA => ?_
        show outV _ _ = some _
        kernel_rfl
       ·refine G_skip ?_
        refine G_then ?_
        refine G_seq ?_
        refine G_drawA (fun c => if c = 2 then [1001] else if c = 3 then [1002] else []) (by exact ⟨trivial, trivial, rfl, trivial, trivial, rfl, trivial⟩) (by decide) ?_
        refine X_op (w := (.box [1002] 3)) (v := (.box [1002] 3)) (E_p (by kernel_rfl)) rfl rfl rfl ?_
        refine X_op (w := (ii p_n.Qty)) (v := (ii p_n.Qty)) (E_load (by kernel_rfl)) rfl rfl rfl ?_
        refine X_op (w := (.box [1002] 4)) (v := (.box [1002] 4)) (E_p (by kernel_rfl)) rfl rfl rfl ?_
        refine X_op (w := (ii p_n.Price)) (v := (ii p_n.Price)) (E_load (by kernel_rfl)) rfl rfl rfl ?_
        refine X_op (w := (.box [1001] 4)) (v := (.box [1001] 4)) (E_p (by kernel_rfl)) rfl rfl rfl ?_
        refine X_op0 (v := (.val (.tup []))) (E_store (b := [1001]) (o := 4) (cs := [(ii p_n.Qty)]) (cells := (lOrderT p_o)) (cells' := [(ii p_o.Id), (ii p_o.Account), (ii p_o.Symbol), (ii p_o.Side), (ii p_n.Qty), (ii p_o.Price), (ii p_o.Filled), (ii p_o.Phase), (ii p_o.NewQty), (ii p_o.NewPrice), (ii p_o.Version), (bb p_o.Asked)]) (h' := [([1001], (.box [(ii p_o.Id), (ii p_o.Account), (ii p_o.Symbol), (ii p_o.Side), (ii p_n.Qty), (ii p_o.Price), (ii p_o.Filled), (ii p_o.Phase), (ii p_o.NewQty), (ii p_o.NewPrice), (ii p_o.Version), (bb p_o.Asked)])), ([1002], (.box (lNoteT p_n))), ([1003], (.box zOrderT))]) (by kernel_rfl) (by kernel_rfl) (by kernel_rfl) rfl (by kernel_rfl) (by kernel_rfl) (by kernel_rfl) (by kernel_rfl)) rfl ?_
        refine X_op (w := (.box [1001] 5)) (v := (.box [1001] 5)) (E_p (by kernel_rfl)) rfl rfl rfl ?_
        refine X_op0 (v := (.val (.tup []))) (E_store (b := [1001]) (o := 5) (cs := [(ii p_n.Price)]) (cells := [(ii p_o.Id), (ii p_o.Account), (ii p_o.Symbol), (ii p_o.Side), (ii p_n.Qty), (ii p_o.Price), (ii p_o.Filled), (ii p_o.Phase), (ii p_o.NewQty), (ii p_o.NewPrice), (ii p_o.Version), (bb p_o.Asked)]) (cells' := [(ii p_o.Id), (ii p_o.Account), (ii p_o.Symbol), (ii p_o.Side), (ii p_n.Qty), (ii p_n.Price), (ii p_o.Filled), (ii p_o.Phase), (ii p_o.NewQty), (ii p_o.NewPrice), (ii p_o.Version), (bb p_o.Asked)]) (h' := [([1001], (.box [(ii p_o.Id), (ii p_o.Account), (ii p_o.Symbol), (ii p_o.Side), (ii p_n.Qty), (ii p_n.Price), (ii p_o.Filled), (ii p_o.Phase), (ii p_o.NewQty), (ii p_o.NewPrice), (ii p_o.Version), (bb p_o.Asked)])), ([1002], (.box (lNoteT p_n))), ([1003], (.box zOrderT))]) (by kernel_rfl) (by kernel_rfl) (by kernel_rfl) rfl (by kernel_rfl) (by kernel_rfl) (by kernel_rfl) (by kernel_rfl)) rfl ?_
        refine X_nil (m := [(5, (bb false)), (4, (.box [1003] 0)), (2, (.box [1001] 0))]) (by exact ⟨rfl, rfl, rfl, trivial⟩) ?_
        refine G_then ?_
        refine G_seq ?_
        refine G_region ?_
        refine G_op [0] (v := (.agg [(ii p_o.Id), (ii p_o.Account), (ii p_o.Symbol), (ii p_o.Side), (ii p_n.Qty), (ii p_n.Price), (ii p_o.Filled), (ii p_o.Phase), (ii p_o.NewQty), (ii p_o.NewPrice), (ii p_o.Version), (bb p_o.Asked)])) (E_load (by kernel_rfl)) rfl rfl ?_
        refine q_bind fun v13 hv13 => ?_
        refine G_op [0] (v := (.val (.agg [(.int .i64 v13.Id), (.int .i64 v13.Account), (.int .i64 v13.Symbol), (.int .i64 v13.Side), (.int .i64 v13.Qty), (.int .i64 v13.Price), (.int .i64 v13.Filled), (.int .i64 v13.Phase), (.int .i64 v13.NewQty), (.int .i64 v13.NewPrice), (.int .i64 v13.Version), (.bool v13.Asked)]))) (E_call (ds := [.agg (e_OrderT (OrderT.mk p_o.Id p_o.Account p_o.Symbol p_o.Side p_n.Qty p_n.Price p_o.Filled p_o.Phase p_o.NewQty p_o.NewPrice p_o.Version p_o.Asked))]) (r := .agg (e_OrderT v13)) hc86 (by kernel_rfl) ((hs86 (OrderT.mk p_o.Id p_o.Account p_o.Symbol p_o.Side p_n.Qty p_n.Price p_o.Filled p_o.Phase p_o.NewQty p_o.NewPrice p_o.Version p_o.Asked) _ (by kernel_rfl)).trans (congrArg _ hv13))) rfl rfl ?_
        refine G_op0 [0] (v := (.val (.tup []))) (E_store (b := [1003]) (o := 0) (cs := (lOrderT v13)) (cells := zOrderT) (cells' := (lOrderT v13)) (h' := [([1001], (.box [(ii p_o.Id), (ii p_o.Account), (ii p_o.Symbol), (ii p_o.Side), (ii p_n.Qty), (ii p_n.Price), (ii p_o.Filled), (ii p_o.Phase), (ii p_o.NewQty), (ii p_o.NewPrice), (ii p_o.Version), (bb p_o.Asked)])), ([1002], (.box (lNoteT p_n))), ([1003], (.box (lOrderT v13)))]) (by kernel_rfl) (by kernel_rfl) (by kernel_rfl) rfl (by kernel_rfl) (by kernel_rfl) (by kernel_rfl) (by kernel_rfl)) rfl ?_
        refine G_op [0] (v := (bb true)) (E_p (by kernel_rfl)) rfl rfl ?_
        refine G_nil ?_
        refine G_then ?_
        refine G_ret ?_
        refine G_thenR ?_
        refine G_inBR ?_
        refine G_thenR ?_
        refine G_inBR ?_
        refine G_thenR ?_
        refine G_retR ?_
        refine q_some fun hA => ?_
        show outV _ _ = some _
        kernel_rfl
      ·refine q_two (((!v3) || (p_n.Qty != p_o.NewQty)) || (p_n.Price != p_o.NewPrice)) (fun h10 => ?_) (fun h10 => ?_)
       ·refine G_subR (Sub_lit (t := 56) (v := true) rfl h10) ?_
        refine G_off rfl rfl ?_
        refine G_off rfl rfl ?_
        refine G_off rfl rfl ?_
        refine G_off rfl rfl ?_
        refine G_off rfl rfl ?_
        refine G_op [0] (v := (bb true)) (E_p (by kernel_rfl)) rfl rfl ?_
        exact q_some fun h => RP_sub (by exact Sub_env ⟨(Wk_or1 h10), .refl _, .refl _, .refl _, .refl _, trivial⟩) h
       ·refine G_subR (Sub_lit (t := 56) (v := false) rfl h10) ?_
        refine G_op [0] (v := (.box [1002] 3)) (E_p (by kernel_rfl)) rfl rfl ?_
        refine G_op [0] (v := (ii p_n.Qty)) (E_load (by kernel_rfl)) rfl rfl ?_
        refine G_op [0] (v := (.box [1001] 6)) (E_p (by kernel_rfl)) rfl rfl ?_
        refine G_op [0] (v := (ii p_o.Filled)) (E_load (by kernel_rfl)) rfl rfl ?_
        refine G_op [0] (v := (bb ((decide (p_n.Qty ≤ p_o.Filled))))) (E_p (by kernel_rfl)) rfl rfl ?_
        refine G_op [0] (v := (bb ((decide (p_n.Qty ≤ p_o.Filled))))) (E_p (by kernel_rfl)) rfl rfl ?_
        exact q_some fun h => RP_sub (by exact Sub_env ⟨(Wk_or0 h10), .refl _, .refl _, .refl _, .refl _, trivial⟩) h
     ·refine q_two ((!v3) || (p_n.Qty != p_o.NewQty)) (fun h7 => ?_) (fun h7 => ?_)
      ·refine G_subR (Sub_lit (t := 49) (v := true) rfl h7) ?_
       refine G_off rfl rfl ?_
       refine G_off rfl rfl ?_
       refine G_off rfl rfl ?_
       refine G_off rfl rfl ?_
       refine G_off rfl rfl ?_
       refine G_op [0] (v := (bb true)) (E_p (by kernel_rfl)) rfl rfl ?_
       exact q_some fun h => RP_sub (by exact Sub_env ⟨(Wk_or1 h7), .refl _, .refl _, .refl _, .refl _, trivial⟩) h
      ·refine G_subR (Sub_lit (t := 49) (v := false) rfl h7) ?_
       refine G_op [0] (v := (.box [1002] 4)) (E_p (by kernel_rfl)) rfl rfl ?_
       refine G_op [0] (v := (ii p_n.Price)) (E_load (by kernel_rfl)) rfl rfl ?_
       refine G_op [0] (v := (.box [1001] 9)) (E_p (by kernel_rfl)) rfl rfl ?_
       refine G_op [0] (v := (ii p_o.NewPrice)) (E_load (by kernel_rfl)) rfl rfl ?_
       refine G_op [0] (v := (bb ((p_n.Price != p_o.NewPrice)))) (E_p (by kernel_rfl)) rfl rfl ?_
       refine G_op [0] (v := (bb ((p_n.Price != p_o.NewPrice)))) (E_p (by kernel_rfl)) rfl rfl ?_
       exact q_some fun h => RP_sub (by exact Sub_env ⟨(Wk_or0 h7), .refl _, .refl _, .refl _, .refl _, trivial⟩) h
    ·refine q_two (!v3) (fun h4 => ?_) (fun h4 => ?_)
     ·refine G_subR (Sub_lit (t := 42) (v := true) rfl h4) ?_
      refine G_off rfl rfl ?_
      refine G_off rfl rfl ?_
      refine G_off rfl rfl ?_
      refine G_off rfl rfl ?_
      refine G_off rfl rfl ?_
      refine G_op [0] (v := (bb true)) (E_p (by kernel_rfl)) rfl rfl ?_
      exact q_some fun h => RP_sub (by exact Sub_env ⟨(Wk_or1 h4), .refl _, .refl _, .refl _, .refl _, trivial⟩) h
     ·refine G_subR (Sub_lit (t := 42) (v := false) rfl h4) ?_
      refine G_op [0] (v := (.box [1002] 3)) (E_p (by kernel_rfl)) rfl rfl ?_
      refine G_op [0] (v := (ii p_n.Qty)) (E_load (by kernel_rfl)) rfl rfl ?_
      refine G_op [0] (v := (.box [1001] 8)) (E_p (by kernel_rfl)) rfl rfl ?_
      refine G_op [0] (v := (ii p_o.NewQty)) (E_load (by kernel_rfl)) rfl rfl ?_
      refine G_op [0] (v := (bb ((p_n.Qty != p_o.NewQty)))) (E_p (by kernel_rfl)) rfl rfl ?_
      refine G_op [0] (v := (bb ((p_n.Qty != p_o.NewQty)))) (E_p (by kernel_rfl)) rfl rfl ?_
      exact q_some fun h => RP_sub (by exact Sub_env ⟨(Wk_or0 h4), .refl _, .refl _, .refl _, .refl _, trivial⟩) h
   ·refine G_skip ?_
    refine G_then ?_
    refine G_subW (s0 := ⟨⟨77, [(7, (ii p_n.What)), (5, (bb false)), (4, (.box [1003] 0)), (3, (.box [1002] 0)), (2, (.box [1001] 0))]⟩, mkH [([1001], (.box (lOrderT p_o))), ([1002], (.box (lNoteT p_n))), ([1003], (.box zOrderT))]⟩) (by exact Sub_env ⟨.refl _, .refl _, .refl _, .refl _, .refl _, trivial⟩) ?_
    refine G_seq ?_
    refine G_region ?_
    refine G_op [0] (v := (bb ((p_n.What == 6)))) (E_p (by kernel_rfl)) rfl rfl ?_
    refine G_op [0] (v := (bb ((p_n.What == 6)))) (E_p (by kernel_rfl)) rfl rfl ?_
    refine G_nil ?_
    refine G_then ?_
    refine G_cond (t := (p_n.What == 6)) (by kernel_rfl) (fun _ => ?_) (fun _ => ?_)
    ·refine G_exit ?_
     refine G_thenX ?_
     refine G_inBO rfl ?_
     refine G_thenX ?_
     refine G_inBO rfl ?_
     refine G_thenX ?_
     refine G_inBO rfl ?_
     refine G_thenX ?_
     refine G_inBX ?_
     refine G_then ?_
     refine G_seq ?_
     refine G_seq ?_
     refine G_draw ?_
     refine X_op (w := (.agg (lOrderT p_o))) (v := (.agg (lOrderT p_o))) (E_load (by kernel_rfl)) rfl rfl rfl ?_
     refine q_bind fun v14 hv14 => ?_
     refine X_op (w := (.val (.agg [(.int .i64 v14.Id), (.int .i64 v14.Account), (.int .i64 v14.Symbol), (.int .i64 v14.Side), (.int .i64 v14.Qty), (.int .i64 v14.Price), (.int .i64 v14.Filled), (.int .i64 v14.Phase), (.int .i64 v14.NewQty), (.int .i64 v14.NewPrice), (.int .i64 v14.Version), (.bool v14.Asked)]))) (v := (.val (.agg [(.int .i64 v14.Id), (.int .i64 v14.Account), (.int .i64 v14.Symbol), (.int .i64 v14.Side), (.int .i64 v14.Qty), (.int .i64 v14.Price), (.int .i64 v14.Filled), (.int .i64 v14.Phase), (.int .i64 v14.NewQty), (.int .i64 v14.NewPrice), (.int .i64 v14.Version), (.bool v14.Asked)]))) (E_callX (ds := [.agg (e_OrderT p_o)]) (ids := []) (r := .agg (e_OrderT v14)) hc86 (by kernel_rfl) ((hs86 p_o _ (by kernel_rfl)).trans (congrArg _ hv14)) (by kernel_rfl)) rfl rfl rfl ?_
     refine X_op (w := (.agg (lOrderT p_o))) (v := (.agg (lOrderT p_o))) (E_load (by kernel_rfl)) rfl rfl rfl ?_
     refine q_bind fun v15 hv15 => ?_
     refine X_op (w := (bb v15)) (v := (bb v15)) (E_callX (ds := [.agg (e_OrderT p_o)]) (ids := []) (r := .bool v15) hc67 (by kernel_rfl) ((hs67 p_o _ (by kernel_rfl)).trans (congrArg _ hv15)) (by kernel_rfl)) rfl rfl rfl ?_
     refine X_op0 (v := (.val (.tup []))) (E_store (b := [1003]) (o := 0) (cs := (lOrderT v14)) (cells := zOrderT) (cells' := (lOrderT v14)) (h' := [([1001], (.box (lOrderT p_o))), ([1002], (.box (lNoteT p_n))), ([1003], (.box (lOrderT v14)))]) (by kernel_rfl) (by kernel_rfl) (by kernel_rfl) rfl (by kernel_rfl) (by kernel_rfl) (by kernel_rfl) (by kernel_rfl)) rfl ?_
     refine X_op (w := (bb v15)) (v := (bb v15)) (E_p (by kernel_rfl)) rfl rfl rfl ?_
     refine X_nil (m := [(5, (bb v15)), (4, (.box [1003] 0)), (2, (.box [1001] 0))]) (by exact ⟨rfl, rfl, rfl, trivial⟩) ?_
     refine G_then ?_
     refine G_ret ?_
     refine G_thenR ?_
     refine G_inBR ?_
     refine G_thenR ?_
     refine G_retR ?_
     refine q_some fun hA => ?_
     show outV _ _ = some _
     kernel_rfl
    ·refine G_skip ?_
     refine G_then ?_
     refine G_exit ?_
     refine G_inBO rfl ?_
     refine G_thenX ?_
     refine G_inBO rfl ?_
     refine G_thenX ?_
     refine G_inBO rfl ?_
     refine G_thenX ?_
     refine G_inBO rfl ?_
     refine G_thenX ?_
     refine G_inBX ?_
     refine G_then ?_
     refine G_seq ?_
     refine G_region ?_
     refine G_op [0] (v := (.agg (lOrderT p_o))) (E_load (by kernel_rfl)) rfl rfl ?_
     refine G_op0 [0] (v := (.val (.tup []))) (E_store (b := [1003]) (o := 0) (cs := (lOrderT p_o)) (cells := zOrderT) (cells' := (lOrderT p_o)) (h' := [([1001], (.box (lOrderT p_o))), ([1002], (.box (lNoteT p_n))), ([1003], (.box (lOrderT p_o)))]) (by kernel_rfl) (by kernel_rfl) (by kernel_rfl) rfl (by kernel_rfl) (by kernel_rfl) (by kernel_rfl) (by kernel_rfl)) rfl ?_
     refine G_op [0] (v := (bb false)) (E_p (by kernel_rfl)) rfl rfl ?_
     refine G_nil ?_
     refine G_then ?_
     refine G_ret ?_
     refine G_retR ?_
     refine q_some fun hA => ?_
     show outV _ _ = some _
     kernel_rfl
theorem s71 (x0 : OrderT) (x1 : NoteT) (ds : List DV) (hd : List.map z1 ds = List.map z1 [.agg (e_OrderT x0), .agg (e_NoteT x1)]) : sp71 ds = (g_order_live x0 x1).map fun r => .tup [.agg (e_OrderT r.1), .bool r.2] :=
 specT_at (ea := fun (a : OrderT × NoteT) => [.agg (e_OrderT a.1), .agg (e_NoteT a.2)]) (eb := fun (r : (OrderT × Bool)) => .tup [.agg (e_OrderT r.1), .bool r.2]) (g := fun (a : OrderT × NoteT) => g_order_live a.1 a.2) inj71 (x0, x1) hd

def t43_0 : List AIns := (⟨(some 17), (.p (.mv (.t 16))), none⟩ :: ⟨(some 18), (.p (.foff 2 (.t 3))), (some (17, false))⟩ :: ⟨(some 19), (.r (.load 1 false (.t 18))), (some (17, false))⟩ :: ⟨(some 20), (.p (.foff 0 (.t 2))), (some (17, false))⟩ :: ⟨(some 21), (.r (.load 1 false (.t 20))), (some (17, false))⟩ :: ⟨(some 22), (.p (.bin .neq (.t 19) (.t 21))), (some (17, false))⟩ :: ⟨(some 23), (.p (.pick (.t 17) (.c (.bool true)) (.t 22))), none⟩ :: [])
def k43_0 : ACode := (.region (⟨(some 2), (.a (.bx (.t 0))), none⟩ :: ⟨(some 3), (.a (.bx (.t 1))), none⟩ :: ⟨(some 4), (.a (.alloc [(.int .i64 0), (.int .i64 0), (.int .i64 0), (.int .i64 0), (.int .i64 0), (.int .i64 0), (.int .i64 0), (.int .i64 0), (.int .i64 0), (.int .i64 0), (.int .i64 0), (.bool false)])), none⟩ :: ⟨(some 5), (.p (.mv (.c (.int .i64 0)))), none⟩ :: []))
def k43_1 : ACode := (.region (⟨(some 8), (.r (.load 12 true (.t 2))), none⟩ :: ⟨(some 9), (.r (.call 41 [(.t 8)])), none⟩ :: ⟨(some 10), (.p (.un .not (.t 9))), none⟩ :: ⟨(some 11), (.p (.mv (.t 10))), none⟩ :: ⟨(some 12), (.r (.load 5 true (.t 3))), (some (11, false))⟩ :: ⟨(some 13), (.r (.call 69 [(.t 12)])), (some (11, false))⟩ :: ⟨(some 14), (.r (.call 52 [(.t 13)])), (some (11, false))⟩ :: ⟨(some 15), (.p (.un .not (.t 14))), (some (11, false))⟩ :: ⟨(some 16), (.p (.pick (.t 11) (.c (.bool true)) (.t 15))), none⟩ :: t43_0))
def k43_2 : ACode := (.seq (.region (⟨(some 24), (.r (.load 12 true (.t 2))), none⟩ :: ⟨none, (.w (.store 12 (.t 4) (.t 24))), none⟩ :: ⟨(some 5), (.p (.mv (.c (.int .i64 1)))), none⟩ :: [])) .ret)
def k43_3 : ACode := (.cond (.t 23) k43_2 .skip)
def k43_4 : ACode := (.seq k43_1 k43_3)
def k43_5 : ACode := (.region (⟨(some 25), (.r (.load 12 true (.t 2))), none⟩ :: ⟨(some 6), (.a (.alloc [(.int .i64 0), (.int .i64 0), (.int .i64 0), (.int .i64 0), (.int .i64 0), (.int .i64 0), (.int .i64 0), (.int .i64 0), (.int .i64 0), (.int .i64 0), (.int .i64 0), (.bool false)])), none⟩ :: ⟨none, (.w (.store 12 (.t 6) (.t 25))), none⟩ :: ⟨(some 7), (.p (.mv (.c (.bool false)))), none⟩ :: []))
def k43_6 : ACode := (.region (⟨(some 31), (.r (.load 12 true (.t 2))), none⟩ :: ⟨(some 32), (.r (.load 5 true (.t 3))), none⟩ :: ⟨(some 33), (.r (.call 70 [(.t 31), (.t 32)])), none⟩ :: ⟨(some 30), (.p (.mv (.t 33))), none⟩ :: ⟨(some 34), (.p (.ext (.t 30) 0)), none⟩ :: ⟨(some 35), (.p (.ext (.t 30) 1)), none⟩ :: ⟨none, (.w (.store 12 (.t 2) (.t 34))), none⟩ :: ⟨(some 7), (.p (.mv (.t 35))), none⟩ :: []))
def k43_7 : ACode := (.region (⟨(some 39), (.r (.load 12 true (.t 2))), none⟩ :: ⟨(some 40), (.r (.load 5 true (.t 3))), none⟩ :: ⟨(some 41), (.r (.call 71 [(.t 39), (.t 40)])), none⟩ :: ⟨(some 38), (.p (.mv (.t 41))), none⟩ :: ⟨(some 42), (.p (.ext (.t 38) 0)), none⟩ :: ⟨(some 43), (.p (.ext (.t 38) 1)), none⟩ :: ⟨none, (.w (.store 12 (.t 2) (.t 42))), none⟩ :: ⟨(some 7), (.p (.mv (.t 43))), none⟩ :: []))
def k43_8 : ACode := (.cond (.t 36) k43_7 .skip)
def k43_9 : ACode := (.seq (.region (⟨(some 37), (.p (.bin .eql (.t 27) (.c (.int .i64 2)))), none⟩ :: ⟨(some 36), (.p (.mv (.t 37))), none⟩ :: [])) k43_8)
def k43_10 : ACode := (.cond (.t 28) k43_6 k43_9)
def k43_11 : ACode := (.seq (.region (⟨(some 29), (.p (.bin .eql (.t 27) (.c (.int .i64 1)))), none⟩ :: ⟨(some 28), (.p (.mv (.t 29))), none⟩ :: [])) k43_10)
def k43_12 : ACode := (.block 0 k43_11)
def k43_13 : ACode := (.seq (.region (⟨(some 26), (.p (.foff 7 (.t 2))), none⟩ :: ⟨(some 27), (.r (.load 1 false (.t 26))), none⟩ :: [])) k43_12)
def k43_14 : ACode := (.seq (.region (⟨(some 46), (.r (.load 12 true (.t 6))), none⟩ :: ⟨none, (.w (.store 12 (.t 4) (.t 46))), none⟩ :: ⟨(some 5), (.p (.mv (.c (.int .i64 8)))), none⟩ :: [])) .ret)
def k43_15 : ACode := (.cond (.t 45) k43_14 .skip)
def k43_16 : ACode := (.seq (.region (⟨(some 44), (.p (.mv (.t 7))), none⟩ :: ⟨(some 45), (.p (.un .not (.t 44))), none⟩ :: [])) k43_15)
def k43_17 : ACode := (.seq (.region (⟨(some 47), (.r (.load 12 true (.t 2))), none⟩ :: ⟨none, (.w (.store 12 (.t 4) (.t 47))), none⟩ :: ⟨(some 5), (.p (.mv (.c (.int .i64 0)))), none⟩ :: [])) .ret)
def k43_18 : ACode := (.seq k43_16 k43_17)
def k43_19 : ACode := (.seq k43_13 k43_18)
def k43_20 : ACode := (.seq k43_5 k43_19)
def k43_21 : ACode := (.seq k43_4 k43_20)
def cd43 : ACode := (.seq k43_0 k43_21)
def rs43 : List ARes := [(.cell 4 12 true), (.tmp 5)]
def af43 : AFn := ⟨cd43, rs43, 48⟩
theorem c43 : compF Try.prog 43 = some af43 := by kernel_rfl
noncomputable def g_order_Take (p_o : OrderT) (p_n : NoteT) : Option (OrderT × Int) := (Option.bind (g_order_Right p_o) fun v1 => (Option.bind (bif (!v1) then (some true) else (Option.bind (g_rec_OfNote p_n) fun v14 => (Option.bind (g_rec_Right v14) fun v15 => (some (!v15))))) fun (b3 : Bool) => (bif (b3 || (p_n.Order != p_o.Id)) then (some (p_o, 1)) else (Option.bind ((bif (p_o.Phase == 1) then (Option.bind (g_order_sent p_o p_n) fun v10 => (some (v10.2, v10.1.Id, v10.1.Account, v10.1.Symbol, v10.1.Side, v10.1.Qty, v10.1.Price, v10.1.Filled, v10.1.Phase, v10.1.NewQty, v10.1.NewPrice, v10.1.Version, v10.1.Asked))) else (Option.bind ((bif (p_o.Phase == 2) then (Option.bind (g_order_live p_o p_n) fun v13 => (some (v13.2, v13.1.Id, v13.1.Account, v13.1.Symbol, v13.1.Side, v13.1.Qty, v13.1.Price, v13.1.Filled, v13.1.Phase, v13.1.NewQty, v13.1.NewPrice, v13.1.Version, v13.1.Asked))) else (some (false, p_o.Id, p_o.Account, p_o.Symbol, p_o.Side, p_o.Qty, p_o.Price, p_o.Filled, p_o.Phase, p_o.NewQty, p_o.NewPrice, p_o.Version, p_o.Asked))) : Option (Bool × Int × Int × Int × Int × Int × Int × Int × Int × Int × Int × Int × Bool)) (fun (j11 : Bool × Int × Int × Int × Int × Int × Int × Int × Int × Int × Int × Int × Bool) => (some (j11.1, j11.2.1, j11.2.2.1, j11.2.2.2.1, j11.2.2.2.2.1, j11.2.2.2.2.2.1, j11.2.2.2.2.2.2.1, j11.2.2.2.2.2.2.2.1, j11.2.2.2.2.2.2.2.2.1, j11.2.2.2.2.2.2.2.2.2.1, j11.2.2.2.2.2.2.2.2.2.2.1, j11.2.2.2.2.2.2.2.2.2.2.2.1, j11.2.2.2.2.2.2.2.2.2.2.2.2))))) : Option (Bool × Int × Int × Int × Int × Int × Int × Int × Int × Int × Int × Int × Bool)) (fun (j8 : Bool × Int × Int × Int × Int × Int × Int × Int × Int × Int × Int × Int × Bool) => (bif (!j8.1) then (some (p_o, 8)) else (some ((OrderT.mk j8.2.1 j8.2.2.1 j8.2.2.2.1 j8.2.2.2.2.1 j8.2.2.2.2.2.1 j8.2.2.2.2.2.2.1 j8.2.2.2.2.2.2.2.1 j8.2.2.2.2.2.2.2.2.1 j8.2.2.2.2.2.2.2.2.2.1 j8.2.2.2.2.2.2.2.2.2.2.1 j8.2.2.2.2.2.2.2.2.2.2.2.1 j8.2.2.2.2.2.2.2.2.2.2.2.2), 0))))))))
noncomputable def sp43 : List DV → Option DV := specT (fun (a : OrderT × NoteT) => [.agg (e_OrderT a.1), .agg (e_NoteT a.2)]) (fun (r : (OrderT × Int)) => .tup [.agg (e_OrderT r.1), .int .i64 r.2]) (fun (a : OrderT × NoteT) => g_order_Take a.1 a.2)
theorem inj43 : ∀ (a b : OrderT × NoteT), List.map z1 ((fun (a : OrderT × NoteT) => [.agg (e_OrderT a.1), .agg (e_NoteT a.2)]) a) = List.map z1 ((fun (a : OrderT × NoteT) => [.agg (e_OrderT a.1), .agg (e_NoteT a.2)]) b) → a = b := by
 rintro ⟨a0, a1⟩ ⟨b0, b1⟩ h
 simp only [List.map_cons, List.map_nil, List.cons.injEq, and_true] at h
 obtain ⟨h0, h1⟩ := h
 exact (pair_eq (e_OrderT_inj (DV.agg.inj h0)) (e_NoteT_inj (DV.agg.inj h1)))
set_option maxHeartbeats 1000000 in
theorem w43 {C : FuncId → Con} (hC : ConOk Try.prog C) {q41 : List DV → Option DV} (hc41 : C 41 = .val q41) (hs41 : ∀ (x0 : OrderT) (ds : List DV), List.map z1 ds = List.map z1 [.agg (e_OrderT x0)] → q41 ds = (g_order_Right x0).map fun r => .bool r) {q69 : List DV → Option DV} (hc69 : C 69 = .val q69) (hs69 : ∀ (x0 : NoteT) (ds : List DV), List.map z1 ds = List.map z1 [.agg (e_NoteT x0)] → q69 ds = (g_rec_OfNote x0).map fun r => .agg (e_RecT r)) {q52 : List DV → Option DV} (hc52 : C 52 = .val q52) (hs52 : ∀ (x0 : RecT) (ds : List DV), List.map z1 ds = List.map z1 [.agg (e_RecT x0)] → q52 ds = (g_rec_Right x0).map fun r => .bool r) {q70 : List DV → Option DV} (hc70 : C 70 = .val q70) (hs70 : ∀ (x0 : OrderT) (x1 : NoteT) (ds : List DV), List.map z1 ds = List.map z1 [.agg (e_OrderT x0), .agg (e_NoteT x1)] → q70 ds = (g_order_sent x0 x1).map fun r => .tup [.agg (e_OrderT r.1), .bool r.2]) {q71 : List DV → Option DV} (hc71 : C 71 = .val q71) (hs71 : ∀ (x0 : OrderT) (x1 : NoteT) (ds : List DV), List.map z1 ds = List.map z1 [.agg (e_OrderT x0), .agg (e_NoteT x1)] → q71 ds = (g_order_live x0 x1).map fun r => .tup [.agg (e_OrderT r.1), .bool r.2]) : ValOk Try.prog 43 sp43 := by
 refine valT_of hC c43 _ _ _ inj43 ?_
 rintro ⟨p_o, p_n⟩
 show Imq (g_order_Take p_o p_n) (fun _ => True) fun r => WP Try.prog C (fun _ => False) cd43 (retQ fun s => outV s rs43 = some (.tup [.agg (e_OrderT r.1), .int .i64 r.2])) ⟨⟨48, [(0, (.val (.agg [(.int .i64 p_o.Id), (.int .i64 p_o.Account), (.int .i64 p_o.Symbol), (.int .i64 p_o.Side), (.int .i64 p_o.Qty), (.int .i64 p_o.Price), (.int .i64 p_o.Filled), (.int .i64 p_o.Phase), (.int .i64 p_o.NewQty), (.int .i64 p_o.NewPrice), (.int .i64 p_o.Version), (.bool p_o.Asked)]))), (1, (.val (.agg [(.int .i64 p_n.Seq), (.int .i64 p_n.What), (.int .i64 p_n.Order), (.int .i64 p_n.Qty), (.int .i64 p_n.Price)])))]⟩, mkH []⟩
 unfold g_order_Take
 refine G_seq ?_
 refine G_region ?_
 refine G_op [1001] (v := (.box [1001] 0)) (E_a (u := (.box [1001] 0)) (b := (.box (lOrderT p_o))) (h' := [([1001], (.box (lOrderT p_o)))]) (by kernel_rfl) (by kernel_rfl) (by kernel_rfl)) rfl rfl ?_
 refine G_op [1002] (v := (.box [1002] 0)) (E_a (u := (.box [1002] 0)) (b := (.box (lNoteT p_n))) (h' := [([1001], (.box (lOrderT p_o))), ([1002], (.box (lNoteT p_n)))]) (by kernel_rfl) (by kernel_rfl) (by kernel_rfl)) rfl rfl ?_
 refine G_op [1003] (v := (.box [1003] 0)) (E_a (u := (.box [1003] 0)) (b := (.box zOrderT)) (h' := [([1001], (.box (lOrderT p_o))), ([1002], (.box (lNoteT p_n))), ([1003], (.box zOrderT))]) (by kernel_rfl) (by kernel_rfl) (by kernel_rfl)) rfl rfl ?_
 refine G_op [0] (v := (ii 0)) (E_p (by kernel_rfl)) rfl rfl ?_
 refine G_nil ?_
 refine G_then ?_
 refine G_seq ?_
 refine G_seq ?_
 refine G_region ?_
 refine G_op [0] (v := (.agg (lOrderT p_o))) (E_load (by kernel_rfl)) rfl rfl ?_
 refine q_bind fun v1 hv1 => ?_
 refine G_op [0] (v := (bb v1)) (E_call (ds := [.agg (e_OrderT p_o)]) (r := .bool v1) hc41 (by kernel_rfl) ((hs41 p_o _ (by kernel_rfl)).trans (congrArg _ hv1))) rfl rfl ?_
 refine G_op [0] (v := (bb ((!v1)))) (E_p (by kernel_rfl)) rfl rfl ?_
 refine G_op [0] (v := (bb ((!v1)))) (E_p (by kernel_rfl)) rfl rfl ?_
 refine G_joinR (l := t43_0) (st := fun (b3 : Bool) => ⟨⟨48, [(16, (bb b3)), (5, (ii 0)), (4, (.box [1003] 0)), (3, (.box [1002] 0)), (2, (.box [1001] 0))]⟩, mkH [([1001], (.box (lOrderT p_o))), ([1002], (.box (lNoteT p_n))), ([1003], (.box zOrderT))]⟩) (fun b3 => ?_) (fun r4 hr4 => ?_)
 ·refine G_op [0] (v := (bb b3)) (E_p (by kernel_rfl)) rfl rfl ?_
  refine G_pure (l := []) (st := ⟨⟨48, [(23, (bb ((b3 || (p_n.Order != p_o.Id))))), (5, (ii 0)), (4, (.box [1003] 0)), (3, (.box [1002] 0)), (2, (.box [1001] 0))]⟩, mkH [([1001], (.box (lOrderT p_o))), ([1002], (.box (lNoteT p_n))), ([1003], (.box zOrderT))]⟩) ?_ (fun r7 => ?_)
  ·refine G_nil ?_
   refine G_then ?_
   refine G_cond (t := (b3 || (p_n.Order != p_o.Id))) (by kernel_rfl) (fun _ => ?_) (fun _ => ?_)
   ·refine G_seq ?_
    refine G_region ?_
    refine G_op [0] (v := (.agg (lOrderT p_o))) (E_load (by kernel_rfl)) rfl rfl ?_
    refine G_op0 [0] (v := (.val (.tup []))) (E_store (b := [1003]) (o := 0) (cs := (lOrderT p_o)) (cells := zOrderT) (cells' := (lOrderT p_o)) (h' := [([1001], (.box (lOrderT p_o))), ([1002], (.box (lNoteT p_n))), ([1003], (.box (lOrderT p_o)))]) (by kernel_rfl) (by kernel_rfl) (by kernel_rfl) rfl (by kernel_rfl) (by kernel_rfl) (by kernel_rfl) (by kernel_rfl)) rfl ?_
    refine G_op [0] (v := (ii 1)) (E_p (by kernel_rfl)) rfl rfl ?_
    refine G_nil ?_
    refine G_then ?_
    refine G_ret ?_
    refine G_thenR ?_
    refine G_retR ?_
    refine q_some fun hA => ?_
    show outV _ _ = some _
    kernel_rfl
   ·refine G_skip ?_
    refine G_then ?_
    refine G_seq ?_
    refine G_region ?_
    refine G_op [0] (v := (.agg (lOrderT p_o))) (E_load (by kernel_rfl)) rfl rfl ?_
    refine G_op [1004] (v := (.box [1004] 0)) (E_a (u := (.box [1004] 0)) (b := (.box zOrderT)) (h' := [([1001], (.box (lOrderT p_o))), ([1002], (.box (lNoteT p_n))), ([1003], (.box zOrderT)), ([1004], (.box zOrderT))]) (by kernel_rfl) (by kernel_rfl) (by kernel_rfl)) rfl rfl ?_
    refine G_op0 [0] (v := (.val (.tup []))) (E_store (b := [1004]) (o := 0) (cs := (lOrderT p_o)) (cells := zOrderT) (cells' := (lOrderT p_o)) (h' := [([1001], (.box (lOrderT p_o))), ([1002], (.box (lNoteT p_n))), ([1003], (.box zOrderT)), ([1004], (.box (lOrderT p_o)))]) (by kernel_rfl) (by kernel_rfl) (by kernel_rfl) rfl (by kernel_rfl) (by kernel_rfl) (by kernel_rfl) (by kernel_rfl)) rfl ?_
    refine G_op [0] (v := (bb false)) (E_p (by kernel_rfl)) rfl rfl ?_
    refine G_nil ?_
    refine G_then ?_
    refine G_seq ?_
    refine G_seq ?_
    refine G_region ?_
    refine G_op [0] (v := (.box [1001] 7)) (E_p (by kernel_rfl)) rfl rfl ?_
    refine G_op [0] (v := (ii p_o.Phase)) (E_load (by kernel_rfl)) rfl rfl ?_
    refine G_nil ?_
    refine G_then ?_
    refine G_block ?_
    refine G_seq ?_
    refine G_region ?_
    refine G_op [0] (v := (bb ((p_o.Phase == 1)))) (E_p (by kernel_rfl)) rfl rfl ?_
    refine G_op [0] (v := (bb ((p_o.Phase == 1)))) (E_p (by kernel_rfl)) rfl rfl ?_
    refine G_nil ?_
    refine G_then ?_
    refine G_join (st := fun j8 => ⟨⟨48, [(7, (bb j8.1)), (6, (.box [1004] 0)), (5, (ii 0)), (4, (.box [1003] 0)), (2, (.box [1001] 0))]⟩, mkH [([1001], (.box [(ii j8.2.1), (ii j8.2.2.1), (ii j8.2.2.2.1), (ii j8.2.2.2.2.1), (ii j8.2.2.2.2.2.1), (ii j8.2.2.2.2.2.2.1), (ii j8.2.2.2.2.2.2.2.1), (ii j8.2.2.2.2.2.2.2.2.1), (ii j8.2.2.2.2.2.2.2.2.2.1), (ii j8.2.2.2.2.2.2.2.2.2.2.1), (ii j8.2.2.2.2.2.2.2.2.2.2.2.1), (bb j8.2.2.2.2.2.2.2.2.2.2.2.2)])), ([1003], (.box zOrderT)), ([1004], (.box (lOrderT p_o)))]⟩) (fun j8 => ?_) (fun r9 hr9 => ?_)
    ·refine G_inB ?_
     refine G_then ?_
     refine G_seq ?_
     refine G_seq ?_
     refine G_region ?_
     refine G_op [0] (v := (bb j8.1)) (E_p (by kernel_rfl)) rfl rfl ?_
     refine G_op [0] (v := (bb ((!j8.1)))) (E_p (by kernel_rfl)) rfl rfl ?_
     refine G_nil ?_
     refine G_then ?_
     refine G_cond (t := (!j8.1)) (by kernel_rfl) (fun _ => ?_) (fun _ => ?_)
     ·refine G_seq ?_
      refine G_region ?_
      refine G_op [0] (v := (.agg (lOrderT p_o))) (E_load (by kernel_rfl)) rfl rfl ?_
      refine G_op0 [0] (v := (.val (.tup []))) (E_store (b := [1003]) (o := 0) (cs := (lOrderT p_o)) (cells := zOrderT) (cells' := (lOrderT p_o)) (h' := [([1001], (.box [(ii j8.2.1), (ii j8.2.2.1), (ii j8.2.2.2.1), (ii j8.2.2.2.2.1), (ii j8.2.2.2.2.2.1), (ii j8.2.2.2.2.2.2.1), (ii j8.2.2.2.2.2.2.2.1), (ii j8.2.2.2.2.2.2.2.2.1), (ii j8.2.2.2.2.2.2.2.2.2.1), (ii j8.2.2.2.2.2.2.2.2.2.2.1), (ii j8.2.2.2.2.2.2.2.2.2.2.2.1), (bb j8.2.2.2.2.2.2.2.2.2.2.2.2)])), ([1003], (.box (lOrderT p_o))), ([1004], (.box (lOrderT p_o)))]) (by kernel_rfl) (by kernel_rfl) (by kernel_rfl) rfl (by kernel_rfl) (by kernel_rfl) (by kernel_rfl) (by kernel_rfl)) rfl ?_
      refine G_op [0] (v := (ii 8)) (E_p (by kernel_rfl)) rfl rfl ?_
      refine G_nil ?_
      refine G_then ?_
      refine G_ret ?_
      refine G_thenR ?_
      refine G_retR ?_
      refine q_some fun hA => ?_
      show outV _ _ = some _
      kernel_rfl
     ·refine G_skip ?_
      refine G_then ?_
      refine G_seq ?_
      refine G_region ?_
      refine G_op [0] (v := (.agg [(ii j8.2.1), (ii j8.2.2.1), (ii j8.2.2.2.1), (ii j8.2.2.2.2.1), (ii j8.2.2.2.2.2.1), (ii j8.2.2.2.2.2.2.1), (ii j8.2.2.2.2.2.2.2.1), (ii j8.2.2.2.2.2.2.2.2.1), (ii j8.2.2.2.2.2.2.2.2.2.1), (ii j8.2.2.2.2.2.2.2.2.2.2.1), (ii j8.2.2.2.2.2.2.2.2.2.2.2.1), (bb j8.2.2.2.2.2.2.2.2.2.2.2.2)])) (E_load (by kernel_rfl)) rfl rfl ?_
      refine G_op0 [0] (v := (.val (.tup []))) (E_store (b := [1003]) (o := 0) (cs := [(ii j8.2.1), (ii j8.2.2.1), (ii j8.2.2.2.1), (ii j8.2.2.2.2.1), (ii j8.2.2.2.2.2.1), (ii j8.2.2.2.2.2.2.1), (ii j8.2.2.2.2.2.2.2.1), (ii j8.2.2.2.2.2.2.2.2.1), (ii j8.2.2.2.2.2.2.2.2.2.1), (ii j8.2.2.2.2.2.2.2.2.2.2.1), (ii j8.2.2.2.2.2.2.2.2.2.2.2.1), (bb j8.2.2.2.2.2.2.2.2.2.2.2.2)]) (cells := zOrderT) (cells' := [(ii j8.2.1), (ii j8.2.2.1), (ii j8.2.2.2.1), (ii j8.2.2.2.2.1), (ii j8.2.2.2.2.2.1), (ii j8.2.2.2.2.2.2.1), (ii j8.2.2.2.2.2.2.2.1), (ii j8.2.2.2.2.2.2.2.2.1), (ii j8.2.2.2.2.2.2.2.2.2.1), (ii j8.2.2.2.2.2.2.2.2.2.2.1), (ii j8.2.2.2.2.2.2.2.2.2.2.2.1), (bb j8.2.2.2.2.2.2.2.2.2.2.2.2)]) (h' := [([1001], (.box [(ii j8.2.1), (ii j8.2.2.1), (ii j8.2.2.2.1), (ii j8.2.2.2.2.1), (ii j8.2.2.2.2.2.1), (ii j8.2.2.2.2.2.2.1), (ii j8.2.2.2.2.2.2.2.1), (ii j8.2.2.2.2.2.2.2.2.1), (ii j8.2.2.2.2.2.2.2.2.2.1), (ii j8.2.2.2.2.2.2.2.2.2.2.1), (ii j8.2.2.2.2.2.2.2.2.2.2.2.1), (bb j8.2.2.2.2.2.2.2.2.2.2.2.2)])), ([1003], (.box [(ii j8.2.1), (ii j8.2.2.1), (ii j8.2.2.2.1), (ii j8.2.2.2.2.1), (ii j8.2.2.2.2.2.1), (ii j8.2.2.2.2.2.2.1), (ii j8.2.2.2.2.2.2.2.1), (ii j8.2.2.2.2.2.2.2.2.1), (ii j8.2.2.2.2.2.2.2.2.2.1), (ii j8.2.2.2.2.2.2.2.2.2.2.1), (ii j8.2.2.2.2.2.2.2.2.2.2.2.1), (bb j8.2.2.2.2.2.2.2.2.2.2.2.2)])), ([1004], (.box (lOrderT p_o)))]) (by kernel_rfl) (by kernel_rfl) (by kernel_rfl) rfl (by kernel_rfl) (by kernel_rfl) (by kernel_rfl) (by kernel_rfl)) rfl ?_
      refine G_op [0] (v := (ii 0)) (E_p (by kernel_rfl)) rfl rfl ?_
      refine G_nil ?_
      refine G_then ?_
      refine G_ret ?_
      refine G_retR ?_
      refine q_some fun hA => ?_
      show outV _ _ = some _
      kernel_rfl
    ·refine G_cond (t := (p_o.Phase == 1)) (by kernel_rfl) (fun _ => ?_) (fun _ => ?_)
     ·refine G_region ?_
      refine G_op [0] (v := (.agg (lOrderT p_o))) (E_load (by kernel_rfl)) rfl rfl ?_
      refine G_op [0] (v := (.agg (lNoteT p_n))) (E_load (by kernel_rfl)) rfl rfl ?_
      refine q_bind fun v10 hv10 => ?_
      refine G_op [0] (v := (.val (.tup [(.agg [(.int .i64 v10.1.Id), (.int .i64 v10.1.Account), (.int .i64 v10.1.Symbol), (.int .i64 v10.1.Side), (.int .i64 v10.1.Qty), (.int .i64 v10.1.Price), (.int .i64 v10.1.Filled), (.int .i64 v10.1.Phase), (.int .i64 v10.1.NewQty), (.int .i64 v10.1.NewPrice), (.int .i64 v10.1.Version), (.bool v10.1.Asked)]), (.bool v10.2)]))) (E_call (ds := [.agg (e_OrderT p_o), .agg (e_NoteT p_n)]) (r := .tup [.agg (e_OrderT v10.1), .bool v10.2]) hc70 (by kernel_rfl) ((hs70 p_o p_n _ (by kernel_rfl)).trans (congrArg _ hv10))) rfl rfl ?_
      refine G_op [0] (v := (.val (.tup [(.agg [(.int .i64 v10.1.Id), (.int .i64 v10.1.Account), (.int .i64 v10.1.Symbol), (.int .i64 v10.1.Side), (.int .i64 v10.1.Qty), (.int .i64 v10.1.Price), (.int .i64 v10.1.Filled), (.int .i64 v10.1.Phase), (.int .i64 v10.1.NewQty), (.int .i64 v10.1.NewPrice), (.int .i64 v10.1.Version), (.bool v10.1.Asked)]), (.bool v10.2)]))) (E_p (by kernel_rfl)) rfl rfl ?_
      refine G_op [0] (v := (.val (.agg [(.int .i64 v10.1.Id), (.int .i64 v10.1.Account), (.int .i64 v10.1.Symbol), (.int .i64 v10.1.Side), (.int .i64 v10.1.Qty), (.int .i64 v10.1.Price), (.int .i64 v10.1.Filled), (.int .i64 v10.1.Phase), (.int .i64 v10.1.NewQty), (.int .i64 v10.1.NewPrice), (.int .i64 v10.1.Version), (.bool v10.1.Asked)]))) (E_p (by kernel_rfl)) rfl rfl ?_
      refine G_op [0] (v := (bb v10.2)) (E_p (by kernel_rfl)) rfl rfl ?_
      refine G_op0 [0] (v := (.val (.tup []))) (E_store (b := [1001]) (o := 0) (cs := (lOrderT v10.1)) (cells := (lOrderT p_o)) (cells' := (lOrderT v10.1)) (h' := [([1001], (.box (lOrderT v10.1))), ([1002], (.box (lNoteT p_n))), ([1003], (.box zOrderT)), ([1004], (.box (lOrderT p_o)))]) (by kernel_rfl) (by kernel_rfl) (by kernel_rfl) rfl (by kernel_rfl) (by kernel_rfl) (by kernel_rfl) (by kernel_rfl)) rfl ?_
      refine G_op [0] (v := (bb v10.2)) (E_p (by kernel_rfl)) rfl rfl ?_
      refine G_nil ?_
      exact q_some fun h => ((QN_inB QN_then) : QN _ _) _ _ (by exact Sub_keep ⟨.refl _, .refl _, .refl _, .refl _, .refl _, trivial⟩ ⟨⟨_, (by kernel_rfl), .refl _⟩, ⟨_, (by kernel_rfl), .refl _⟩, ⟨_, (by kernel_rfl), .refl _⟩, trivial⟩ (by kernel_rfl) (by kernel_rfl)) h
     ·refine G_seq ?_
      refine G_region ?_
      refine G_op [0] (v := (bb ((p_o.Phase == 2)))) (E_p (by kernel_rfl)) rfl rfl ?_
      refine G_op [0] (v := (bb ((p_o.Phase == 2)))) (E_p (by kernel_rfl)) rfl rfl ?_
      refine G_nil ?_
      refine G_then ?_
      refine G_join (st := fun j11 => ⟨⟨48, [(7, (bb j11.1)), (6, (.box [1004] 0)), (5, (ii 0)), (4, (.box [1003] 0)), (2, (.box [1001] 0))]⟩, mkH [([1001], (.box [(ii j11.2.1), (ii j11.2.2.1), (ii j11.2.2.2.1), (ii j11.2.2.2.2.1), (ii j11.2.2.2.2.2.1), (ii j11.2.2.2.2.2.2.1), (ii j11.2.2.2.2.2.2.2.1), (ii j11.2.2.2.2.2.2.2.2.1), (ii j11.2.2.2.2.2.2.2.2.2.1), (ii j11.2.2.2.2.2.2.2.2.2.2.1), (ii j11.2.2.2.2.2.2.2.2.2.2.2.1), (bb j11.2.2.2.2.2.2.2.2.2.2.2.2)])), ([1003], (.box zOrderT)), ([1004], (.box (lOrderT p_o)))]⟩) (fun j11 => ?_) (fun r12 hr12 => ?_)
      ·exact q_some fun h => ((QN_inB QN_then) : QN _ _) _ _ (by exact Sub_env ⟨.refl _, .refl _, .refl _, .refl _, .refl _, trivial⟩) h
      ·refine G_cond (t := (p_o.Phase == 2)) (by kernel_rfl) (fun _ => ?_) (fun _ => ?_)
       ·refine G_region ?_
        refine G_op [0] (v := (.agg (lOrderT p_o))) (E_load (by kernel_rfl)) rfl rfl ?_
        refine G_op [0] (v := (.agg (lNoteT p_n))) (E_load (by kernel_rfl)) rfl rfl ?_
        refine q_bind fun v13 hv13 => ?_
        refine G_op [0] (v := (.val (.tup [(.agg [(.int .i64 v13.1.Id), (.int .i64 v13.1.Account), (.int .i64 v13.1.Symbol), (.int .i64 v13.1.Side), (.int .i64 v13.1.Qty), (.int .i64 v13.1.Price), (.int .i64 v13.1.Filled), (.int .i64 v13.1.Phase), (.int .i64 v13.1.NewQty), (.int .i64 v13.1.NewPrice), (.int .i64 v13.1.Version), (.bool v13.1.Asked)]), (.bool v13.2)]))) (E_call (ds := [.agg (e_OrderT p_o), .agg (e_NoteT p_n)]) (r := .tup [.agg (e_OrderT v13.1), .bool v13.2]) hc71 (by kernel_rfl) ((hs71 p_o p_n _ (by kernel_rfl)).trans (congrArg _ hv13))) rfl rfl ?_
        refine G_op [0] (v := (.val (.tup [(.agg [(.int .i64 v13.1.Id), (.int .i64 v13.1.Account), (.int .i64 v13.1.Symbol), (.int .i64 v13.1.Side), (.int .i64 v13.1.Qty), (.int .i64 v13.1.Price), (.int .i64 v13.1.Filled), (.int .i64 v13.1.Phase), (.int .i64 v13.1.NewQty), (.int .i64 v13.1.NewPrice), (.int .i64 v13.1.Version), (.bool v13.1.Asked)]), (.bool v13.2)]))) (E_p (by kernel_rfl)) rfl rfl ?_
        refine G_op [0] (v := (.val (.agg [(.int .i64 v13.1.Id), (.int .i64 v13.1.Account), (.int .i64 v13.1.Symbol), (.int .i64 v13.1.Side), (.int .i64 v13.1.Qty), (.int .i64 v13.1.Price), (.int .i64 v13.1.Filled), (.int .i64 v13.1.Phase), (.int .i64 v13.1.NewQty), (.int .i64 v13.1.NewPrice), (.int .i64 v13.1.Version), (.bool v13.1.Asked)]))) (E_p (by kernel_rfl)) rfl rfl ?_
        refine G_op [0] (v := (bb v13.2)) (E_p (by kernel_rfl)) rfl rfl ?_
        refine G_op0 [0] (v := (.val (.tup []))) (E_store (b := [1001]) (o := 0) (cs := (lOrderT v13.1)) (cells := (lOrderT p_o)) (cells' := (lOrderT v13.1)) (h' := [([1001], (.box (lOrderT v13.1))), ([1002], (.box (lNoteT p_n))), ([1003], (.box zOrderT)), ([1004], (.box (lOrderT p_o)))]) (by kernel_rfl) (by kernel_rfl) (by kernel_rfl) rfl (by kernel_rfl) (by kernel_rfl) (by kernel_rfl) (by kernel_rfl)) rfl ?_
        refine G_op [0] (v := (bb v13.2)) (E_p (by kernel_rfl)) rfl rfl ?_
        refine G_nil ?_
        exact q_some fun h => ((QN_inB QN_then) : QN _ _) _ _ (by exact Sub_keep ⟨.refl _, .refl _, .refl _, .refl _, .refl _, trivial⟩ ⟨⟨_, (by kernel_rfl), .refl _⟩, ⟨_, (by kernel_rfl), .refl _⟩, ⟨_, (by kernel_rfl), .refl _⟩, trivial⟩ (by kernel_rfl) (by kernel_rfl)) h
       ·refine G_skip ?_
        exact q_some fun h => ((QN_inB QN_then) : QN _ _) _ _ (by exact Sub_keep ⟨.refl _, .refl _, .refl _, .refl _, .refl _, trivial⟩ ⟨⟨_, (by kernel_rfl), .refl _⟩, ⟨_, (by kernel_rfl), .refl _⟩, ⟨_, (by kernel_rfl), .refl _⟩, trivial⟩ (by kernel_rfl) (by kernel_rfl)) h
  ·refine q_two b3 (fun h5 => ?_) (fun h5 => ?_)
   ·refine G_subR (Sub_lit (t := 17) (v := true) rfl h5) ?_
    refine G_off rfl rfl ?_
    refine G_off rfl rfl ?_
    refine G_off rfl rfl ?_
    refine G_off rfl rfl ?_
    refine G_off rfl rfl ?_
    refine G_op [0] (v := (bb true)) (E_p (by kernel_rfl)) rfl rfl ?_
    exact q_some fun h => RP_sub (by exact Sub_env ⟨(Wk_or1 h5), .refl _, .refl _, .refl _, .refl _, trivial⟩) h
   ·refine G_subR (Sub_lit (t := 17) (v := false) rfl h5) ?_
    refine G_op [0] (v := (.box [1002] 2)) (E_p (by kernel_rfl)) rfl rfl ?_
    refine G_op [0] (v := (ii p_n.Order)) (E_load (by kernel_rfl)) rfl rfl ?_
    refine G_op [0] (v := (.box [1001] 0)) (E_p (by kernel_rfl)) rfl rfl ?_
    refine G_op [0] (v := (ii p_o.Id)) (E_load (by kernel_rfl)) rfl rfl ?_
    refine G_op [0] (v := (bb ((p_n.Order != p_o.Id)))) (E_p (by kernel_rfl)) rfl rfl ?_
    refine G_op [0] (v := (bb ((p_n.Order != p_o.Id)))) (E_p (by kernel_rfl)) rfl rfl ?_
    exact q_some fun h => RP_sub (by exact Sub_env ⟨(Wk_or0 h5), .refl _, .refl _, .refl _, .refl _, trivial⟩) h
 ·refine q_bif (fun h2 => ?_) (fun h2 => ?_)
  ·refine G_subR (Sub_lit (t := 11) (v := true) rfl h2) ?_
   refine G_off rfl rfl ?_
   refine G_off rfl rfl ?_
   refine G_off rfl rfl ?_
   refine G_off rfl rfl ?_
   refine G_op [0] (v := (bb true)) (E_p (by kernel_rfl)) rfl rfl ?_
   exact q_some fun h => RP_sub (by exact Sub_env ⟨.refl _, .refl _, .refl _, .refl _, .refl _, trivial⟩) h
  ·refine G_subR (Sub_lit (t := 11) (v := false) rfl h2) ?_
   refine G_op [0] (v := (.agg (lNoteT p_n))) (E_load (by kernel_rfl)) rfl rfl ?_
   refine q_bind fun v14 hv14 => ?_
   refine G_op [0] (v := (.val (.agg [(.int .i64 v14.Kind), (.int .i64 v14.Order), (.int .i64 v14.Account), (.int .i64 v14.Symbol), (.int .i64 v14.Side), (.int .i64 v14.Qty), (.int .i64 v14.Price), (.int .i64 v14.Long), (.int .i64 v14.Short), (.int .i64 v14.Open), (.bool v14.On), (.int .i64 v14.Seq), (.int .i64 v14.What)]))) (E_call (ds := [.agg (e_NoteT p_n)]) (r := .agg (e_RecT v14)) hc69 (by kernel_rfl) ((hs69 p_n _ (by kernel_rfl)).trans (congrArg _ hv14))) rfl rfl ?_
   refine q_bind fun v15 hv15 => ?_
   refine G_op [0] (v := (bb v15)) (E_call (ds := [.agg (e_RecT v14)]) (r := .bool v15) hc52 (by kernel_rfl) ((hs52 v14 _ (by kernel_rfl)).trans (congrArg _ hv15))) rfl rfl ?_
   refine G_op [0] (v := (bb ((!v15)))) (E_p (by kernel_rfl)) rfl rfl ?_
   refine G_op [0] (v := (bb ((!v15)))) (E_p (by kernel_rfl)) rfl rfl ?_
   exact q_some fun h => RP_sub (by exact Sub_env ⟨.refl _, .refl _, .refl _, .refl _, .refl _, trivial⟩) h
theorem s43 (x0 : OrderT) (x1 : NoteT) (ds : List DV) (hd : List.map z1 ds = List.map z1 [.agg (e_OrderT x0), .agg (e_NoteT x1)]) : sp43 ds = (g_order_Take x0 x1).map fun r => .tup [.agg (e_OrderT r.1), .int .i64 r.2] :=
 specT_at (ea := fun (a : OrderT × NoteT) => [.agg (e_OrderT a.1), .agg (e_NoteT a.2)]) (eb := fun (r : (OrderT × Int)) => .tup [.agg (e_OrderT r.1), .int .i64 r.2]) (g := fun (a : OrderT × NoteT) => g_order_Take a.1 a.2) inj43 (x0, x1) hd

def k61_0 : ACode := (.region (⟨(some 7), (.p (.mv (.t 0))), none⟩ :: ⟨(some 8), (.p (.mv (.t 1))), none⟩ :: ⟨(some 9), (.p (.bin .add (.t 7) (.t 8))), none⟩ :: ⟨(some 6), (.p (.mv (.t 9))), none⟩ :: []))
def k61_1 : ACode := (.region (⟨(some 10), (.p (.mv (.t 6))), none⟩ :: ⟨(some 11), (.p (.mv (.t 0))), none⟩ :: ⟨(some 12), (.p (.bin .gtr (.t 10) (.t 11))), none⟩ :: ⟨(some 13), (.p (.mv (.t 1))), none⟩ :: ⟨(some 14), (.p (.bin .gtr (.t 13) (.c (.int .i64 0)))), none⟩ :: ⟨(some 15), (.p (.eqb true (.t 12) (.t 14))), none⟩ :: ⟨(some 16), (.p (.mv (.t 15))), none⟩ :: ⟨(some 17), (.p (.mv (.t 1))), (some (16, true))⟩ :: ⟨(some 18), (.p (.bin .neq (.t 17) (.c (.int .i64 0)))), (some (16, true))⟩ :: ⟨(some 19), (.p (.pick (.t 16) (.t 18) (.c (.bool false)))), none⟩ :: []))
def k61_2 : ACode := (.cond (.t 19) (.seq (.region (⟨(some 4), (.p (.mv (.c (.int .i64 0)))), none⟩ :: ⟨(some 5), (.p (.mv (.c (.int .i64 3)))), none⟩ :: [])) .ret) .skip)
def k61_3 : ACode := (.seq k61_1 k61_2)
def k61_4 : ACode := (.seq (.region (⟨(some 20), (.p (.mv (.t 6))), none⟩ :: ⟨(some 4), (.p (.mv (.t 20))), none⟩ :: ⟨(some 5), (.p (.mv (.c (.int .i64 0)))), none⟩ :: [])) .ret)
def k61_5 : ACode := (.seq k61_3 k61_4)
def k61_6 : ACode := (.seq k61_0 k61_5)
def cd61 : ACode := (.seq (.region (⟨(some 4), (.p (.mv (.c (.int .i64 0)))), none⟩ :: ⟨(some 5), (.p (.mv (.c (.int .i64 0)))), none⟩ :: [])) k61_6)
def rs61 : List ARes := [(.tmp 4), (.tmp 5)]
def af61 : AFn := ⟨cd61, rs61, 21⟩
theorem c61 : compF Try.prog 61 = some af61 := by kernel_rfl
noncomputable def g_num_Add (p_a : Int) (p_b : Int) : Option (Int × Int) := (bif (((decide ((IntKind.wrap .i64 (p_a + p_b)) > p_a)) != (decide (p_b > 0))) && (p_b != 0)) then (some (0, 3)) else (some ((IntKind.wrap .i64 (p_a + p_b)), 0)))
noncomputable def sp61 : List DV → Option DV := specT (fun (a : Int × Int) => [.int .i64 a.1, .int .i64 a.2]) (fun (r : (Int × Int)) => .tup [.int .i64 r.1, .int .i64 r.2]) (fun (a : Int × Int) => g_num_Add a.1 a.2)
theorem inj61 : ∀ (a b : Int × Int), List.map z1 ((fun (a : Int × Int) => [.int .i64 a.1, .int .i64 a.2]) a) = List.map z1 ((fun (a : Int × Int) => [.int .i64 a.1, .int .i64 a.2]) b) → a = b := by
 rintro ⟨a0, a1⟩ ⟨b0, b1⟩ h
 simp only [List.map_cons, List.map_nil, List.cons.injEq, and_true] at h
 obtain ⟨h0, h1⟩ := h
 exact (pair_eq (DV.int.inj h0).2 (DV.int.inj h1).2)
set_option maxHeartbeats 1000000 in
theorem w61 {C : FuncId → Con} (hC : ConOk Try.prog C) : ValOk Try.prog 61 sp61 := by
 refine valT_of hC c61 _ _ _ inj61 ?_
 rintro ⟨p_a, p_b⟩
 show Imq (g_num_Add p_a p_b) (fun _ => True) fun r => WP Try.prog C (fun _ => False) cd61 (retQ fun s => outV s rs61 = some (.tup [.int .i64 r.1, .int .i64 r.2])) ⟨⟨21, [(0, (ii p_a)), (1, (ii p_b))]⟩, mkH []⟩
 unfold g_num_Add
 refine G_seq ?_
 refine G_region ?_
 refine G_op [0] (v := (ii 0)) (E_p (by kernel_rfl)) rfl rfl ?_
 refine G_op [0] (v := (ii 0)) (E_p (by kernel_rfl)) rfl rfl ?_
 refine G_nil ?_
 refine G_then ?_
 refine G_seq ?_
 refine G_region ?_
 refine G_op [0] (v := (ii p_a)) (E_p (by kernel_rfl)) rfl rfl ?_
 refine G_op [0] (v := (ii p_b)) (E_p (by kernel_rfl)) rfl rfl ?_
 refine G_op [0] (v := (ii ((IntKind.wrap .i64 (p_a + p_b))))) (E_p (by kernel_rfl)) rfl rfl ?_
 refine G_op [0] (v := (ii ((IntKind.wrap .i64 (p_a + p_b))))) (E_p (by kernel_rfl)) rfl rfl ?_
 refine G_nil ?_
 refine G_then ?_
 refine G_seq ?_
 refine G_seq ?_
 refine G_region ?_
 refine G_op [0] (v := (ii ((IntKind.wrap .i64 (p_a + p_b))))) (E_p (by kernel_rfl)) rfl rfl ?_
 refine G_op [0] (v := (ii p_a)) (E_p (by kernel_rfl)) rfl rfl ?_
 refine G_op [0] (v := (bb ((decide ((IntKind.wrap .i64 (p_a + p_b)) > p_a))))) (E_p (by kernel_rfl)) rfl rfl ?_
 refine G_op [0] (v := (ii p_b)) (E_p (by kernel_rfl)) rfl rfl ?_
 refine G_op [0] (v := (bb ((decide (p_b > 0))))) (E_p (by kernel_rfl)) rfl rfl ?_
 refine G_op [0] (v := (bb (((decide ((IntKind.wrap .i64 (p_a + p_b)) > p_a)) != (decide (p_b > 0)))))) (E_p (by kernel_rfl)) rfl rfl ?_
 refine G_op [0] (v := (bb (((decide ((IntKind.wrap .i64 (p_a + p_b)) > p_a)) != (decide (p_b > 0)))))) (E_p (by kernel_rfl)) rfl rfl ?_
 refine G_pure (l := []) (st := ⟨⟨21, [(19, (bb ((((decide ((IntKind.wrap .i64 (p_a + p_b)) > p_a)) != (decide (p_b > 0))) && (p_b != 0))))), (6, (ii ((IntKind.wrap .i64 (p_a + p_b))))), (5, (ii 0)), (4, (ii 0))]⟩, mkH []⟩) ?_ (fun r3 => ?_)
 ·refine G_nil ?_
  refine G_then ?_
  refine G_cond (t := (((decide ((IntKind.wrap .i64 (p_a + p_b)) > p_a)) != (decide (p_b > 0))) && (p_b != 0))) (by kernel_rfl) (fun _ => ?_) (fun _ => ?_)
  ·refine G_seq ?_
   refine G_region ?_
   refine G_op [0] (v := (ii 0)) (E_p (by kernel_rfl)) rfl rfl ?_
   refine G_op [0] (v := (ii 3)) (E_p (by kernel_rfl)) rfl rfl ?_
   refine G_nil ?_
   refine G_then ?_
   refine G_ret ?_
   refine G_thenR ?_
   refine G_retR ?_
   refine q_some fun hA => ?_
   show outV _ _ = some _
   kernel_rfl
  ·refine G_skip ?_
   refine G_then ?_
   refine G_seq ?_
   refine G_region ?_
   refine G_op [0] (v := (ii ((IntKind.wrap .i64 (p_a + p_b))))) (E_p (by kernel_rfl)) rfl rfl ?_
   refine G_op [0] (v := (ii ((IntKind.wrap .i64 (p_a + p_b))))) (E_p (by kernel_rfl)) rfl rfl ?_
   refine G_op [0] (v := (ii 0)) (E_p (by kernel_rfl)) rfl rfl ?_
   refine G_nil ?_
   refine G_then ?_
   refine G_ret ?_
   refine G_retR ?_
   refine q_some fun hA => ?_
   show outV _ _ = some _
   kernel_rfl
 ·refine q_two ((decide ((IntKind.wrap .i64 (p_a + p_b)) > p_a)) != (decide (p_b > 0))) (fun h1 => ?_) (fun h1 => ?_)
  ·refine G_subR (Sub_lit (t := 16) (v := true) rfl h1) ?_
   refine G_op [0] (v := (ii p_b)) (E_p (by kernel_rfl)) rfl rfl ?_
   refine G_op [0] (v := (bb ((p_b != 0)))) (E_p (by kernel_rfl)) rfl rfl ?_
   refine G_op [0] (v := (bb ((p_b != 0)))) (E_p (by kernel_rfl)) rfl rfl ?_
   exact q_some fun h => RP_sub (by exact Sub_env ⟨(Wk_and1 h1), .refl _, .refl _, .refl _, trivial⟩) h
  ·refine G_subR (Sub_lit (t := 16) (v := false) rfl h1) ?_
   refine G_off rfl rfl ?_
   refine G_off rfl rfl ?_
   refine G_op [0] (v := (bb false)) (E_p (by kernel_rfl)) rfl rfl ?_
   exact q_some fun h => RP_sub (by exact Sub_env ⟨(Wk_and0 h1), .refl _, .refl _, .refl _, trivial⟩) h
theorem s61 (x0 : Int) (x1 : Int) (ds : List DV) (hd : List.map z1 ds = List.map z1 [.int .i64 x0, .int .i64 x1]) : sp61 ds = (g_num_Add x0 x1).map fun r => .tup [.int .i64 r.1, .int .i64 r.2] :=
 specT_at (ea := fun (a : Int × Int) => [.int .i64 a.1, .int .i64 a.2]) (eb := fun (r : (Int × Int)) => .tup [.int .i64 r.1, .int .i64 r.2]) (g := fun (a : Int × Int) => g_num_Add a.1 a.2) inj61 (x0, x1) hd

def k45_0 : ACode := (.region (⟨(some 11), (.p (.foff 10 (.t 3))), none⟩ :: ⟨(some 12), (.r (.load 1 false (.t 11))), none⟩ :: ⟨(some 13), (.r (.call 61 [(.t 12), (.c (.int .i64 1))])), none⟩ :: ⟨(some 10), (.p (.mv (.t 13))), none⟩ :: ⟨(some 14), (.p (.ext (.t 10) 0)), none⟩ :: ⟨(some 15), (.p (.ext (.t 10) 1)), none⟩ :: ⟨(some 8), (.p (.mv (.t 14))), none⟩ :: ⟨(some 9), (.p (.mv (.t 15))), none⟩ :: []))
def k45_1 : ACode := (.region (⟨(some 17), (.r (.load 12 true (.t 3))), none⟩ :: ⟨(some 18), (.r (.call 41 [(.t 17)])), none⟩ :: ⟨(some 19), (.p (.un .not (.t 18))), none⟩ :: ⟨(some 16), (.p (.mv (.t 19))), none⟩ :: []))
def k45_2 : ACode := (.cond (.t 16) .skip (.region (⟨(some 24), (.p (.mv (.t 9))), none⟩ :: ⟨(some 25), (.p (.bin .neq (.t 24) (.c (.int .i64 0)))), none⟩ :: ⟨(some 16), (.p (.mv (.t 25))), none⟩ :: [])))
def k45_3 : ACode := (.seq (.region (⟨(some 22), (.p (.mv (.t 2))), none⟩ :: ⟨(some 23), (.p (.bin .lss (.t 22) (.c (.int .i64 1)))), none⟩ :: ⟨(some 16), (.p (.mv (.t 23))), none⟩ :: [])) k45_2)
def k45_4 : ACode := (.cond (.t 16) .skip k45_3)
def k45_5 : ACode := (.seq (.region (⟨(some 20), (.p (.mv (.t 1))), none⟩ :: ⟨(some 21), (.p (.bin .lss (.t 20) (.c (.int .i64 1)))), none⟩ :: ⟨(some 16), (.p (.mv (.t 21))), none⟩ :: [])) k45_4)
def k45_6 : ACode := (.cond (.t 16) .skip k45_5)
def k45_7 : ACode := (.seq k45_1 k45_6)
def k45_8 : ACode := (.seq (.region (⟨(some 26), (.r (.load 12 true (.t 3))), none⟩ :: ⟨none, (.w (.store 12 (.t 6) (.t 26))), none⟩ :: ⟨(some 7), (.p (.mv (.c (.int .i64 1)))), none⟩ :: [])) .ret)
def k45_9 : ACode := (.region (⟨(some 28), (.p (.foff 7 (.t 3))), none⟩ :: ⟨(some 29), (.r (.load 1 false (.t 28))), none⟩ :: ⟨(some 30), (.p (.bin .neq (.t 29) (.c (.int .i64 2)))), none⟩ :: ⟨(some 27), (.p (.mv (.t 30))), none⟩ :: []))
def k45_10 : ACode := (.cond (.t 27) .skip (.region (⟨(some 33), (.p (.foff 11 (.t 3))), none⟩ :: ⟨(some 34), (.r (.load 1 false (.t 33))), none⟩ :: ⟨(some 27), (.p (.mv (.t 34))), none⟩ :: [])))
def k45_11 : ACode := (.seq (.region (⟨(some 31), (.r (.load 12 true (.t 3))), none⟩ :: ⟨(some 32), (.r (.call 67 [(.t 31)])), none⟩ :: ⟨(some 27), (.p (.mv (.t 32))), none⟩ :: [])) k45_10)
def k45_12 : ACode := (.cond (.t 27) .skip k45_11)
def k45_13 : ACode := (.seq k45_9 k45_12)
def k45_14 : ACode := (.seq (.region (⟨(some 35), (.r (.load 12 true (.t 3))), none⟩ :: ⟨none, (.w (.store 12 (.t 6) (.t 35))), none⟩ :: ⟨(some 7), (.p (.mv (.c (.int .i64 8)))), none⟩ :: [])) .ret)
def k45_15 : ACode := (.cond (.t 27) k45_14 .skip)
def k45_16 : ACode := (.seq k45_13 k45_15)
def k45_17 : ACode := (.cond (.t 16) k45_8 k45_16)
def k45_18 : ACode := (.seq k45_7 k45_17)
def k45_19 : ACode := (.block 0 k45_18)
def k45_20 : ACode := (.region (⟨(some 36), (.p (.mv (.t 1))), none⟩ :: ⟨(some 37), (.p (.mv (.t 2))), none⟩ :: ⟨(some 38), (.p (.foff 8 (.t 3))), none⟩ :: ⟨none, (.w (.store 1 (.t 38) (.t 36))), none⟩ :: ⟨(some 39), (.p (.foff 9 (.t 3))), none⟩ :: ⟨none, (.w (.store 1 (.t 39) (.t 37))), none⟩ :: []))
def k45_21 : ACode := (.region (⟨(some 40), (.p (.foff 10 (.t 3))), none⟩ :: ⟨(some 41), (.r (.load 1 false (.t 40))), none⟩ :: ⟨(some 42), (.p (.bin .add (.t 41) (.c (.int .i64 1)))), none⟩ :: ⟨(some 43), (.p (.foff 10 (.t 3))), none⟩ :: ⟨none, (.w (.store 1 (.t 43) (.t 42))), none⟩ :: []))
def k45_22 : ACode := (.seq (.region (⟨(some 44), (.r (.load 12 true (.t 3))), none⟩ :: ⟨none, (.w (.store 12 (.t 6) (.t 44))), none⟩ :: ⟨(some 7), (.p (.mv (.c (.int .i64 0)))), none⟩ :: [])) .ret)
def k45_23 : ACode := (.seq k45_21 k45_22)
def k45_24 : ACode := (.seq k45_20 k45_23)
def k45_25 : ACode := (.seq k45_19 k45_24)
def k45_26 : ACode := (.seq k45_0 k45_25)
def cd45 : ACode := (.seq (.region (⟨(some 3), (.a (.bx (.t 0))), none⟩ :: ⟨(some 6), (.a (.alloc [(.int .i64 0), (.int .i64 0), (.int .i64 0), (.int .i64 0), (.int .i64 0), (.int .i64 0), (.int .i64 0), (.int .i64 0), (.int .i64 0), (.int .i64 0), (.int .i64 0), (.bool false)])), none⟩ :: ⟨(some 7), (.p (.mv (.c (.int .i64 0)))), none⟩ :: [])) k45_26)
def rs45 : List ARes := [(.cell 6 12 true), (.tmp 7)]
def af45 : AFn := ⟨cd45, rs45, 45⟩
theorem c45 : compF Try.prog 45 = some af45 := by kernel_rfl
noncomputable def g_order_Change (p_o : OrderT) (p_qty : Int) (p_price : Int) : Option (OrderT × Int) := (Option.bind (g_num_Add p_o.Version 1) fun v1 => (Option.bind (g_order_Right p_o) fun v2 => (Option.bind ((bif (!v2) then (some (!v2)) else (Option.bind ((bif (decide (p_qty < 1)) then (some (decide (p_qty < 1))) else (Option.bind ((bif (decide (p_price < 1)) then (some (decide (p_price < 1))) else (some (v1.2 != 0))) : Option (Bool)) (fun (j7 : Bool) => (some j7)))) : Option (Bool)) (fun (j5 : Bool) => (some j5)))) : Option (Bool)) (fun (j3 : Bool) => (bif j3 then (some (p_o, 1)) else (Option.bind ((bif (p_o.Phase != 2) then (some (p_o.Phase != 2)) else (Option.bind (g_order_pending p_o) fun v11 => (Option.bind ((bif v11 then (some v11) else (some p_o.Asked)) : Option (Bool)) (fun (j12 : Bool) => (some j12))))) : Option (Bool)) (fun (j9 : Bool) => (bif j9 then (some (p_o, 8)) else (some ((OrderT.mk p_o.Id p_o.Account p_o.Symbol p_o.Side p_o.Qty p_o.Price p_o.Filled p_o.Phase p_qty p_price (IntKind.wrap .i64 (p_o.Version + 1)) p_o.Asked), 0))))))))))
noncomputable def sp45 : List DV → Option DV := specT (fun (a : OrderT × Int × Int) => [.agg (e_OrderT a.1), .int .i64 a.2.1, .int .i64 a.2.2]) (fun (r : (OrderT × Int)) => .tup [.agg (e_OrderT r.1), .int .i64 r.2]) (fun (a : OrderT × Int × Int) => g_order_Change a.1 a.2.1 a.2.2)
theorem inj45 : ∀ (a b : OrderT × Int × Int), List.map z1 ((fun (a : OrderT × Int × Int) => [.agg (e_OrderT a.1), .int .i64 a.2.1, .int .i64 a.2.2]) a) = List.map z1 ((fun (a : OrderT × Int × Int) => [.agg (e_OrderT a.1), .int .i64 a.2.1, .int .i64 a.2.2]) b) → a = b := by
 rintro ⟨a0, a1, a2⟩ ⟨b0, b1, b2⟩ h
 simp only [List.map_cons, List.map_nil, List.cons.injEq, and_true] at h
 obtain ⟨h0, h1, h2⟩ := h
 exact (pair_eq (e_OrderT_inj (DV.agg.inj h0)) (pair_eq (DV.int.inj h1).2 (DV.int.inj h2).2))
set_option maxHeartbeats 1000000 in
theorem w45 {C : FuncId → Con} (hC : ConOk Try.prog C) {q61 : List DV → Option DV} (hc61 : C 61 = .val q61) (hs61 : ∀ (x0 : Int) (x1 : Int) (ds : List DV), List.map z1 ds = List.map z1 [.int .i64 x0, .int .i64 x1] → q61 ds = (g_num_Add x0 x1).map fun r => .tup [.int .i64 r.1, .int .i64 r.2]) {q41 : List DV → Option DV} (hc41 : C 41 = .val q41) (hs41 : ∀ (x0 : OrderT) (ds : List DV), List.map z1 ds = List.map z1 [.agg (e_OrderT x0)] → q41 ds = (g_order_Right x0).map fun r => .bool r) {q67 : List DV → Option DV} (hc67 : C 67 = .val q67) (hs67 : ∀ (x0 : OrderT) (ds : List DV), List.map z1 ds = List.map z1 [.agg (e_OrderT x0)] → q67 ds = (g_order_pending x0).map fun r => .bool r) : ValOk Try.prog 45 sp45 := by
 refine valT_of hC c45 _ _ _ inj45 ?_
 rintro ⟨p_o, p_qty, p_price⟩
 show Imq (g_order_Change p_o p_qty p_price) (fun _ => True) fun r => WP Try.prog C (fun _ => False) cd45 (retQ fun s => outV s rs45 = some (.tup [.agg (e_OrderT r.1), .int .i64 r.2])) ⟨⟨45, [(0, (.val (.agg [(.int .i64 p_o.Id), (.int .i64 p_o.Account), (.int .i64 p_o.Symbol), (.int .i64 p_o.Side), (.int .i64 p_o.Qty), (.int .i64 p_o.Price), (.int .i64 p_o.Filled), (.int .i64 p_o.Phase), (.int .i64 p_o.NewQty), (.int .i64 p_o.NewPrice), (.int .i64 p_o.Version), (.bool p_o.Asked)]))), (1, (ii p_qty)), (2, (ii p_price))]⟩, mkH []⟩
 unfold g_order_Change
 refine G_seq ?_
 refine G_region ?_
 refine G_op [1001] (v := (.box [1001] 0)) (E_a (u := (.box [1001] 0)) (b := (.box (lOrderT p_o))) (h' := [([1001], (.box (lOrderT p_o)))]) (by kernel_rfl) (by kernel_rfl) (by kernel_rfl)) rfl rfl ?_
 refine G_op [1002] (v := (.box [1002] 0)) (E_a (u := (.box [1002] 0)) (b := (.box zOrderT)) (h' := [([1001], (.box (lOrderT p_o))), ([1002], (.box zOrderT))]) (by kernel_rfl) (by kernel_rfl) (by kernel_rfl)) rfl rfl ?_
 refine G_op [0] (v := (ii 0)) (E_p (by kernel_rfl)) rfl rfl ?_
 refine G_nil ?_
 refine G_then ?_
 refine G_seq ?_
 refine G_region ?_
 refine G_op [0] (v := (.box [1001] 10)) (E_p (by kernel_rfl)) rfl rfl ?_
 refine G_op [0] (v := (ii p_o.Version)) (E_load (by kernel_rfl)) rfl rfl ?_
 refine q_bind fun v1 hv1 => ?_
 refine G_op [0] (v := (.val (.tup [(.int .i64 v1.1), (.int .i64 v1.2)]))) (E_call (ds := [.int .i64 p_o.Version, .int .i64 1]) (r := .tup [.int .i64 v1.1, .int .i64 v1.2]) hc61 (by kernel_rfl) ((hs61 p_o.Version 1 _ (by kernel_rfl)).trans (congrArg _ hv1))) rfl rfl ?_
 refine G_op [0] (v := (.val (.tup [(.int .i64 v1.1), (.int .i64 v1.2)]))) (E_p (by kernel_rfl)) rfl rfl ?_
 refine G_op [0] (v := (ii v1.1)) (E_p (by kernel_rfl)) rfl rfl ?_
 refine G_op [0] (v := (ii v1.2)) (E_p (by kernel_rfl)) rfl rfl ?_
 refine G_op [0] (v := (ii v1.1)) (E_p (by kernel_rfl)) rfl rfl ?_
 refine G_op [0] (v := (ii v1.2)) (E_p (by kernel_rfl)) rfl rfl ?_
 refine G_nil ?_
 refine G_then ?_
 refine G_seq ?_
 refine G_block ?_
 refine G_seq ?_
 refine G_seq ?_
 refine G_region ?_
 refine G_op [0] (v := (.agg (lOrderT p_o))) (E_load (by kernel_rfl)) rfl rfl ?_
 refine q_bind fun v2 hv2 => ?_
 refine G_op [0] (v := (bb v2)) (E_call (ds := [.agg (e_OrderT p_o)]) (r := .bool v2) hc41 (by kernel_rfl) ((hs41 p_o _ (by kernel_rfl)).trans (congrArg _ hv2))) rfl rfl ?_
 refine G_op [0] (v := (bb ((!v2)))) (E_p (by kernel_rfl)) rfl rfl ?_
 refine G_op [0] (v := (bb ((!v2)))) (E_p (by kernel_rfl)) rfl rfl ?_
 refine G_nil ?_
 refine G_then ?_
 refine G_subW (s0 := ⟨⟨45, [(16, (bb ((!v2)))), (9, (ii v1.2)), (7, (ii 0)), (6, (.box [1002] 0)), (3, (.box [1001] 0)), (1, (ii p_qty)), (2, (ii p_price))]⟩, mkH [([1001], (.box (lOrderT p_o))), ([1002], (.box zOrderT))]⟩) (by exact Sub_env ⟨.refl _, .refl _, .refl _, .refl _, .refl _, .refl _, .refl _, trivial⟩) ?_
 refine G_join (st := fun j3 => ⟨⟨45, [(16, (bb j3)), (7, (ii 0)), (6, (.box [1002] 0)), (3, (.box [1001] 0)), (1, (ii p_qty)), (2, (ii p_price))]⟩, mkH [([1001], (.box (lOrderT p_o))), ([1002], (.box zOrderT))]⟩) (fun j3 => ?_) (fun r4 hr4 => ?_)
 ·refine G_then ?_
  refine G_cond (t := j3) (by kernel_rfl) (fun _ => ?_) (fun _ => ?_)
  ·refine G_seq ?_
   refine G_region ?_
   refine G_op [0] (v := (.agg (lOrderT p_o))) (E_load (by kernel_rfl)) rfl rfl ?_
   refine G_op0 [0] (v := (.val (.tup []))) (E_store (b := [1002]) (o := 0) (cs := (lOrderT p_o)) (cells := zOrderT) (cells' := (lOrderT p_o)) (h' := [([1001], (.box (lOrderT p_o))), ([1002], (.box (lOrderT p_o)))]) (by kernel_rfl) (by kernel_rfl) (by kernel_rfl) rfl (by kernel_rfl) (by kernel_rfl) (by kernel_rfl) (by kernel_rfl)) rfl ?_
   refine G_op [0] (v := (ii 1)) (E_p (by kernel_rfl)) rfl rfl ?_
   refine G_nil ?_
   refine G_then ?_
   refine G_ret ?_
   refine G_inBR ?_
   refine G_thenR ?_
   refine G_retR ?_
   refine q_some fun hA => ?_
   show outV _ _ = some _
   kernel_rfl
  ·refine G_seq ?_
   refine G_seq ?_
   refine G_region ?_
   refine G_op [0] (v := (.box [1001] 7)) (E_p (by kernel_rfl)) rfl rfl ?_
   refine G_op [0] (v := (ii p_o.Phase)) (E_load (by kernel_rfl)) rfl rfl ?_
   refine G_op [0] (v := (bb ((p_o.Phase != 2)))) (E_p (by kernel_rfl)) rfl rfl ?_
   refine G_op [0] (v := (bb ((p_o.Phase != 2)))) (E_p (by kernel_rfl)) rfl rfl ?_
   refine G_nil ?_
   refine G_then ?_
   refine G_join (st := fun j9 => ⟨⟨45, [(27, (bb j9)), (7, (ii 0)), (6, (.box [1002] 0)), (3, (.box [1001] 0)), (1, (ii p_qty)), (2, (ii p_price))]⟩, mkH [([1001], (.box (lOrderT p_o))), ([1002], (.box zOrderT))]⟩) (fun j9 => ?_) (fun r10 hr10 => ?_)
   ·refine G_then ?_
    refine G_cond (t := j9) (by kernel_rfl) (fun _ => ?_) (fun _ => ?_)
    ·refine G_seq ?_
     refine G_region ?_
     refine G_op [0] (v := (.agg (lOrderT p_o))) (E_load (by kernel_rfl)) rfl rfl ?_
     refine G_op0 [0] (v := (.val (.tup []))) (E_store (b := [1002]) (o := 0) (cs := (lOrderT p_o)) (cells := zOrderT) (cells' := (lOrderT p_o)) (h' := [([1001], (.box (lOrderT p_o))), ([1002], (.box (lOrderT p_o)))]) (by kernel_rfl) (by kernel_rfl) (by kernel_rfl) rfl (by kernel_rfl) (by kernel_rfl) (by kernel_rfl) (by kernel_rfl)) rfl ?_
     refine G_op [0] (v := (ii 8)) (E_p (by kernel_rfl)) rfl rfl ?_
     refine G_nil ?_
     refine G_then ?_
     refine G_ret ?_
     refine G_inBR ?_
     refine G_thenR ?_
     refine G_retR ?_
     refine q_some fun hA => ?_
     show outV _ _ = some _
     kernel_rfl
    ·refine G_skip ?_
     refine G_inB ?_
     refine G_then ?_
     refine G_seq ?_
     refine G_region ?_
     refine G_op [0] (v := (ii p_qty)) (E_p (by kernel_rfl)) rfl rfl ?_
     refine G_op [0] (v := (ii p_price)) (E_p (by kernel_rfl)) rfl rfl ?_
     refine G_op [0] (v := (.box [1001] 8)) (E_p (by kernel_rfl)) rfl rfl ?_
     refine G_op0 [0] (v := (.val (.tup []))) (E_store (b := [1001]) (o := 8) (cs := [(ii p_qty)]) (cells := (lOrderT p_o)) (cells' := [(ii p_o.Id), (ii p_o.Account), (ii p_o.Symbol), (ii p_o.Side), (ii p_o.Qty), (ii p_o.Price), (ii p_o.Filled), (ii p_o.Phase), (ii p_qty), (ii p_o.NewPrice), (ii p_o.Version), (bb p_o.Asked)]) (h' := [([1001], (.box [(ii p_o.Id), (ii p_o.Account), (ii p_o.Symbol), (ii p_o.Side), (ii p_o.Qty), (ii p_o.Price), (ii p_o.Filled), (ii p_o.Phase), (ii p_qty), (ii p_o.NewPrice), (ii p_o.Version), (bb p_o.Asked)])), ([1002], (.box zOrderT))]) (by kernel_rfl) (by kernel_rfl) (by kernel_rfl) rfl (by kernel_rfl) (by kernel_rfl) (by kernel_rfl) (by kernel_rfl)) rfl ?_
     refine G_op [0] (v := (.box [1001] 9)) (E_p (by kernel_rfl)) rfl rfl ?_
     refine G_op0 [0] (v := (.val (.tup []))) (E_store (b := [1001]) (o := 9) (cs := [(ii p_price)]) (cells := [(ii p_o.Id), (ii p_o.Account), (ii p_o.Symbol), (ii p_o.Side), (ii p_o.Qty), (ii p_o.Price), (ii p_o.Filled), (ii p_o.Phase), (ii p_qty), (ii p_o.NewPrice), (ii p_o.Version), (bb p_o.Asked)]) (cells' := [(ii p_o.Id), (ii p_o.Account), (ii p_o.Symbol), (ii p_o.Side), (ii p_o.Qty), (ii p_o.Price), (ii p_o.Filled), (ii p_o.Phase), (ii p_qty), (ii p_price), (ii p_o.Version), (bb p_o.Asked)]) (h' := [([1001], (.box [(ii p_o.Id), (ii p_o.Account), (ii p_o.Symbol), (ii p_o.Side), (ii p_o.Qty), (ii p_o.Price), (ii p_o.Filled), (ii p_o.Phase), (ii p_qty), (ii p_price), (ii p_o.Version), (bb p_o.Asked)])), ([1002], (.box zOrderT))]) (by kernel_rfl) (by kernel_rfl) (by kernel_rfl) rfl (by kernel_rfl) (by kernel_rfl) (by kernel_rfl) (by kernel_rfl)) rfl ?_
     refine G_nil ?_
     refine G_then ?_
     refine G_seq ?_
     refine G_region ?_
     refine G_op [0] (v := (.box [1001] 10)) (E_p (by kernel_rfl)) rfl rfl ?_
     refine G_op [0] (v := (ii p_o.Version)) (E_load (by kernel_rfl)) rfl rfl ?_
     refine G_op [0] (v := (ii ((IntKind.wrap .i64 (p_o.Version + 1))))) (E_p (by kernel_rfl)) rfl rfl ?_
     refine G_op [0] (v := (.box [1001] 10)) (E_p (by kernel_rfl)) rfl rfl ?_
     refine G_op0 [0] (v := (.val (.tup []))) (E_store (b := [1001]) (o := 10) (cs := [(ii ((IntKind.wrap .i64 (p_o.Version + 1))))]) (cells := [(ii p_o.Id), (ii p_o.Account), (ii p_o.Symbol), (ii p_o.Side), (ii p_o.Qty), (ii p_o.Price), (ii p_o.Filled), (ii p_o.Phase), (ii p_qty), (ii p_price), (ii p_o.Version), (bb p_o.Asked)]) (cells' := [(ii p_o.Id), (ii p_o.Account), (ii p_o.Symbol), (ii p_o.Side), (ii p_o.Qty), (ii p_o.Price), (ii p_o.Filled), (ii p_o.Phase), (ii p_qty), (ii p_price), (ii ((IntKind.wrap .i64 (p_o.Version + 1)))), (bb p_o.Asked)]) (h' := [([1001], (.box [(ii p_o.Id), (ii p_o.Account), (ii p_o.Symbol), (ii p_o.Side), (ii p_o.Qty), (ii p_o.Price), (ii p_o.Filled), (ii p_o.Phase), (ii p_qty), (ii p_price), (ii ((IntKind.wrap .i64 (p_o.Version + 1)))), (bb p_o.Asked)])), ([1002], (.box zOrderT))]) (by kernel_rfl) (by kernel_rfl) (by kernel_rfl) rfl (by kernel_rfl) (by kernel_rfl) (by kernel_rfl) (by kernel_rfl)) rfl ?_
     refine G_nil ?_
     refine G_then ?_
     refine G_subW (s0 := ⟨⟨45, [(7, (ii 0)), (6, (.box [1002] 0)), (3, (.box [1001] 0))]⟩, mkH [([1001], (.box [(ii p_o.Id), (ii p_o.Account), (ii p_o.Symbol), (ii p_o.Side), (ii p_o.Qty), (ii p_o.Price), (ii p_o.Filled), (ii p_o.Phase), (ii p_qty), (ii p_price), (ii ((IntKind.wrap .i64 (p_o.Version + 1)))), (bb p_o.Asked)])), ([1002], (.box zOrderT))]⟩) (by exact Sub_env ⟨.refl _, .refl _, .refl _, trivial⟩) ?_
     refine G_seq ?_
     refine G_region ?_
     refine G_op [0] (v := (.agg [(ii p_o.Id), (ii p_o.Account), (ii p_o.Symbol), (ii p_o.Side), (ii p_o.Qty), (ii p_o.Price), (ii p_o.Filled), (ii p_o.Phase), (ii p_qty), (ii p_price), (ii ((IntKind.wrap .i64 (p_o.Version + 1)))), (bb p_o.Asked)])) (E_load (by kernel_rfl)) rfl rfl ?_
     refine G_op0 [0] (v := (.val (.tup []))) (E_store (b := [1002]) (o := 0) (cs := [(ii p_o.Id), (ii p_o.Account), (ii p_o.Symbol), (ii p_o.Side), (ii p_o.Qty), (ii p_o.Price), (ii p_o.Filled), (ii p_o.Phase), (ii p_qty), (ii p_price), (ii ((IntKind.wrap .i64 (p_o.Version + 1)))), (bb p_o.Asked)]) (cells := zOrderT) (cells' := [(ii p_o.Id), (ii p_o.Account), (ii p_o.Symbol), (ii p_o.Side), (ii p_o.Qty), (ii p_o.Price), (ii p_o.Filled), (ii p_o.Phase), (ii p_qty), (ii p_price), (ii ((IntKind.wrap .i64 (p_o.Version + 1)))), (bb p_o.Asked)]) (h' := [([1001], (.box [(ii p_o.Id), (ii p_o.Account), (ii p_o.Symbol), (ii p_o.Side), (ii p_o.Qty), (ii p_o.Price), (ii p_o.Filled), (ii p_o.Phase), (ii p_qty), (ii p_price), (ii ((IntKind.wrap .i64 (p_o.Version + 1)))), (bb p_o.Asked)])), ([1002], (.box [(ii p_o.Id), (ii p_o.Account), (ii p_o.Symbol), (ii p_o.Side), (ii p_o.Qty), (ii p_o.Price), (ii p_o.Filled), (ii p_o.Phase), (ii p_qty), (ii p_price), (ii ((IntKind.wrap .i64 (p_o.Version + 1)))), (bb p_o.Asked)]))]) (by kernel_rfl) (by kernel_rfl) (by kernel_rfl) rfl (by kernel_rfl) (by kernel_rfl) (by kernel_rfl) (by kernel_rfl)) rfl ?_
     refine G_op [0] (v := (ii 0)) (E_p (by kernel_rfl)) rfl rfl ?_
     refine G_nil ?_
     refine G_then ?_
     refine G_ret ?_
     refine G_retR ?_
     refine q_some fun hA => ?_
     show outV _ _ = some _
     kernel_rfl
   ·refine G_cond (t := (p_o.Phase != 2)) (by kernel_rfl) (fun _ => ?_) (fun _ => ?_)
    ·refine G_skip ?_
     exact q_some fun h => (QN_then : QN _ _) _ _ (by exact Sub_env ⟨.refl _, .refl _, .refl _, .refl _, .refl _, .refl _, trivial⟩) h
    ·refine G_seq ?_
     refine G_region ?_
     refine G_op [0] (v := (.agg (lOrderT p_o))) (E_load (by kernel_rfl)) rfl rfl ?_
     refine q_bind fun v11 hv11 => ?_
     refine G_op [0] (v := (bb v11)) (E_call (ds := [.agg (e_OrderT p_o)]) (r := .bool v11) hc67 (by kernel_rfl) ((hs67 p_o _ (by kernel_rfl)).trans (congrArg _ hv11))) rfl rfl ?_
     refine G_op [0] (v := (bb v11)) (E_p (by kernel_rfl)) rfl rfl ?_
     refine G_nil ?_
     refine G_then ?_
     refine G_join (st := fun j12 => ⟨⟨45, [(27, (bb j12)), (7, (ii 0)), (6, (.box [1002] 0)), (3, (.box [1001] 0)), (1, (ii p_qty)), (2, (ii p_price))]⟩, mkH [([1001], (.box (lOrderT p_o))), ([1002], (.box zOrderT))]⟩) (fun j12 => ?_) (fun r13 hr13 => ?_)
     ·exact q_some fun h => (QN_then : QN _ _) _ _ (by exact Sub_env ⟨.refl _, .refl _, .refl _, .refl _, .refl _, .refl _, trivial⟩) h
     ·refine G_cond (t := v11) (by kernel_rfl) (fun _ => ?_) (fun _ => ?_)
      ·refine G_skip ?_
       exact q_some fun h => (QN_then : QN _ _) _ _ (by exact Sub_env ⟨.refl _, .refl _, .refl _, .refl _, .refl _, .refl _, trivial⟩) h
      ·refine G_region ?_
       refine G_op [0] (v := (.box [1001] 11)) (E_p (by kernel_rfl)) rfl rfl ?_
       refine G_op [0] (v := (bb p_o.Asked)) (E_load (by kernel_rfl)) rfl rfl ?_
       refine G_op [0] (v := (bb p_o.Asked)) (E_p (by kernel_rfl)) rfl rfl ?_
       refine G_nil ?_
       exact q_some fun h => (QN_then : QN _ _) _ _ (by exact Sub_env ⟨.refl _, .refl _, .refl _, .refl _, .refl _, .refl _, trivial⟩) h
 ·refine G_cond (t := (!v2)) (by kernel_rfl) (fun _ => ?_) (fun _ => ?_)
  ·refine G_skip ?_
   exact q_some fun h => (QN_then : QN _ _) _ _ (by exact Sub_env ⟨.refl _, .refl _, .refl _, .refl _, .refl _, .refl _, trivial⟩) h
  ·refine G_seq ?_
   refine G_region ?_
   refine G_op [0] (v := (ii p_qty)) (E_p (by kernel_rfl)) rfl rfl ?_
   refine G_op [0] (v := (bb ((decide (p_qty < 1))))) (E_p (by kernel_rfl)) rfl rfl ?_
   refine G_op [0] (v := (bb ((decide (p_qty < 1))))) (E_p (by kernel_rfl)) rfl rfl ?_
   refine G_nil ?_
   refine G_then ?_
   refine G_join (st := fun j5 => ⟨⟨45, [(16, (bb j5)), (7, (ii 0)), (6, (.box [1002] 0)), (3, (.box [1001] 0)), (1, (ii p_qty)), (2, (ii p_price))]⟩, mkH [([1001], (.box (lOrderT p_o))), ([1002], (.box zOrderT))]⟩) (fun j5 => ?_) (fun r6 hr6 => ?_)
   ·exact q_some fun h => (QN_then : QN _ _) _ _ (by exact Sub_env ⟨.refl _, .refl _, .refl _, .refl _, .refl _, .refl _, trivial⟩) h
   ·refine G_cond (t := (decide (p_qty < 1))) (by kernel_rfl) (fun _ => ?_) (fun _ => ?_)
    ·refine G_skip ?_
     exact q_some fun h => (QN_then : QN _ _) _ _ (by exact Sub_env ⟨.refl _, .refl _, .refl _, .refl _, .refl _, .refl _, trivial⟩) h
    ·refine G_seq ?_
     refine G_region ?_
     refine G_op [0] (v := (ii p_price)) (E_p (by kernel_rfl)) rfl rfl ?_
     refine G_op [0] (v := (bb ((decide (p_price < 1))))) (E_p (by kernel_rfl)) rfl rfl ?_
     refine G_op [0] (v := (bb ((decide (p_price < 1))))) (E_p (by kernel_rfl)) rfl rfl ?_
     refine G_nil ?_
     refine G_then ?_
     refine G_join (st := fun j7 => ⟨⟨45, [(16, (bb j7)), (7, (ii 0)), (6, (.box [1002] 0)), (3, (.box [1001] 0)), (1, (ii p_qty)), (2, (ii p_price))]⟩, mkH [([1001], (.box (lOrderT p_o))), ([1002], (.box zOrderT))]⟩) (fun j7 => ?_) (fun r8 hr8 => ?_)
     ·exact q_some fun h => (QN_then : QN _ _) _ _ (by exact Sub_env ⟨.refl _, .refl _, .refl _, .refl _, .refl _, .refl _, trivial⟩) h
     ·refine G_cond (t := (decide (p_price < 1))) (by kernel_rfl) (fun _ => ?_) (fun _ => ?_)
      ·refine G_skip ?_
       exact q_some fun h => (QN_then : QN _ _) _ _ (by exact Sub_env ⟨.refl _, .refl _, .refl _, .refl _, .refl _, .refl _, trivial⟩) h
      ·refine G_region ?_
       refine G_op [0] (v := (ii v1.2)) (E_p (by kernel_rfl)) rfl rfl ?_
       refine G_op [0] (v := (bb ((v1.2 != 0)))) (E_p (by kernel_rfl)) rfl rfl ?_
       refine G_op [0] (v := (bb ((v1.2 != 0)))) (E_p (by kernel_rfl)) rfl rfl ?_
       refine G_nil ?_
       exact q_some fun h => (QN_then : QN _ _) _ _ (by exact Sub_env ⟨.refl _, .refl _, .refl _, .refl _, .refl _, .refl _, trivial⟩) h
theorem s45 (x0 : OrderT) (x1 : Int) (x2 : Int) (ds : List DV) (hd : List.map z1 ds = List.map z1 [.agg (e_OrderT x0), .int .i64 x1, .int .i64 x2]) : sp45 ds = (g_order_Change x0 x1 x2).map fun r => .tup [.agg (e_OrderT r.1), .int .i64 r.2] :=
 specT_at (ea := fun (a : OrderT × Int × Int) => [.agg (e_OrderT a.1), .int .i64 a.2.1, .int .i64 a.2.2]) (eb := fun (r : (OrderT × Int)) => .tup [.agg (e_OrderT r.1), .int .i64 r.2]) (g := fun (a : OrderT × Int × Int) => g_order_Change a.1 a.2.1 a.2.2) inj45 (x0, x1, x2) hd

def k88_0 : ACode := (.region (⟨(some 5), (.p (.mv (.t 0))), none⟩ :: ⟨(some 6), (.p (.conv .u64 (.t 5))), none⟩ :: ⟨(some 7), (.p (.un .neg (.t 6))), none⟩ :: ⟨(some 2), (.p (.mv (.t 7))), none⟩ :: []))
def k88_1 : ACode := (.seq k88_0 .ret)
def k88_2 : ACode := (.cond (.t 4) k88_1 .skip)
def k88_3 : ACode := (.seq (.region (⟨(some 3), (.p (.mv (.t 0))), none⟩ :: ⟨(some 4), (.p (.bin .lss (.t 3) (.c (.int .i64 0)))), none⟩ :: [])) k88_2)
def k88_4 : ACode := (.seq (.region (⟨(some 8), (.p (.mv (.t 0))), none⟩ :: ⟨(some 9), (.p (.conv .u64 (.t 8))), none⟩ :: ⟨(some 2), (.p (.mv (.t 9))), none⟩ :: [])) .ret)
def k88_5 : ACode := (.seq k88_3 k88_4)
def cd88 : ACode := (.seq (.region (⟨(some 2), (.p (.mv (.c (.int .u64 0)))), none⟩ :: [])) k88_5)
def rs88 : List ARes := [(.tmp 2)]
def af88 : AFn := ⟨cd88, rs88, 10⟩
theorem c88 : compF Try.prog 88 = some af88 := by kernel_rfl
noncomputable def g_num_size (p_a : Int) : Option Int := (bif (decide (p_a < 0)) then (some (IntKind.wrap .u64 (0 - (IntKind.wrap .u64 p_a)))) else (some (IntKind.wrap .u64 p_a)))
noncomputable def sp88 : List DV → Option DV := specT (fun (a : Int) => [.int .i64 a]) (fun (r : Int) => .int .u64 r) (fun (a : Int) => g_num_size a)
theorem inj88 : ∀ (a b : Int), List.map z1 ((fun (a : Int) => [.int .i64 a]) a) = List.map z1 ((fun (a : Int) => [.int .i64 a]) b) → a = b := by
 intro a0 b0 h
 simp only [List.map_cons, List.map_nil, List.cons.injEq, and_true] at h
 exact (DV.int.inj h).2
set_option maxHeartbeats 1000000 in
theorem w88 {C : FuncId → Con} (hC : ConOk Try.prog C) : ValOk Try.prog 88 sp88 := by
 refine valT_of hC c88 _ _ _ inj88 ?_
 intro p_a
 show Imq (g_num_size p_a) (fun _ => True) fun r => WP Try.prog C (fun _ => False) cd88 (retQ fun s => outV s rs88 = some (.int .u64 r)) ⟨⟨10, [(0, (ii p_a))]⟩, mkH []⟩
 unfold g_num_size
 refine G_seq ?_
 refine G_region ?_
 refine G_op [0] (v := (.val (.int .u64 0))) (E_p (by kernel_rfl)) rfl rfl ?_
 refine G_nil ?_
 refine G_then ?_
 refine G_seq ?_
 refine G_seq ?_
 refine G_region ?_
 refine G_op [0] (v := (ii p_a)) (E_p (by kernel_rfl)) rfl rfl ?_
 refine G_op [0] (v := (bb ((decide (p_a < 0))))) (E_p (by kernel_rfl)) rfl rfl ?_
 refine G_nil ?_
 refine G_then ?_
 refine G_cond (t := (decide (p_a < 0))) (by kernel_rfl) (fun _ => ?_) (fun _ => ?_)
 ·refine G_seq ?_
  refine G_region ?_
  refine G_op [0] (v := (ii p_a)) (E_p (by kernel_rfl)) rfl rfl ?_
  refine G_op [0] (v := (.val (.int .u64 (IntKind.wrap .u64 p_a)))) (E_p (by kernel_rfl)) rfl rfl ?_
  refine G_op [0] (v := (.val (.int .u64 (IntKind.wrap .u64 (0 - (IntKind.wrap .u64 p_a)))))) (E_p (by kernel_rfl)) rfl rfl ?_
  refine G_op [0] (v := (.val (.int .u64 (IntKind.wrap .u64 (0 - (IntKind.wrap .u64 p_a)))))) (E_p (by kernel_rfl)) rfl rfl ?_
  refine G_nil ?_
  refine G_then ?_
  refine G_ret ?_
  refine G_thenR ?_
  refine G_retR ?_
  refine q_some fun hA => ?_
  show outV _ _ = some _
  kernel_rfl
 ·refine G_skip ?_
  refine G_then ?_
  refine G_seq ?_
  refine G_region ?_
  refine G_op [0] (v := (ii p_a)) (E_p (by kernel_rfl)) rfl rfl ?_
  refine G_op [0] (v := (.val (.int .u64 (IntKind.wrap .u64 p_a)))) (E_p (by kernel_rfl)) rfl rfl ?_
  refine G_op [0] (v := (.val (.int .u64 (IntKind.wrap .u64 p_a)))) (E_p (by kernel_rfl)) rfl rfl ?_
  refine G_nil ?_
  refine G_then ?_
  refine G_ret ?_
  refine G_retR ?_
  refine q_some fun hA => ?_
  show outV _ _ = some _
  kernel_rfl
theorem s88 (x0 : Int) (ds : List DV) (hd : List.map z1 ds = List.map z1 [.int .i64 x0]) : sp88 ds = (g_num_size x0).map fun r => .int .u64 r :=
 specT_at (ea := fun (a : Int) => [.int .i64 a]) (eb := fun (r : Int) => .int .u64 r) (g := fun (a : Int) => g_num_size a) inj88 x0 hd

def k87_0 : ACode := (.region (⟨(some 22), (.p (.mv (.t 6))), none⟩ :: ⟨(some 23), (.p (.mv (.t 8))), none⟩ :: ⟨(some 24), (.p (.bin .mul (.t 22) (.t 23))), none⟩ :: ⟨(some 10), (.p (.mv (.t 24))), none⟩ :: []))
def k87_1 : ACode := (.region (⟨(some 25), (.p (.mv (.t 7))), none⟩ :: ⟨(some 26), (.p (.mv (.t 8))), none⟩ :: ⟨(some 27), (.p (.bin .mul (.t 25) (.t 26))), none⟩ :: ⟨(some 28), (.p (.mv (.t 10))), none⟩ :: ⟨(some 29), (.p (.bin .shr (.t 28) (.c (.int .u64 32)))), none⟩ :: ⟨(some 30), (.p (.bin .add (.t 27) (.t 29))), none⟩ :: ⟨(some 11), (.p (.mv (.t 30))), none⟩ :: []))
def k87_2 : ACode := (.region (⟨(some 35), (.p (.mv (.t 12))), none⟩ :: ⟨(some 36), (.p (.mv (.t 6))), none⟩ :: ⟨(some 37), (.p (.mv (.t 9))), none⟩ :: ⟨(some 38), (.p (.bin .mul (.t 36) (.t 37))), none⟩ :: ⟨(some 39), (.p (.bin .add (.t 35) (.t 38))), none⟩ :: ⟨(some 12), (.p (.mv (.t 39))), none⟩ :: []))
def k87_3 : ACode := (.region (⟨(some 40), (.p (.mv (.t 7))), none⟩ :: ⟨(some 41), (.p (.mv (.t 9))), none⟩ :: ⟨(some 42), (.p (.bin .mul (.t 40) (.t 41))), none⟩ :: ⟨(some 43), (.p (.mv (.t 13))), none⟩ :: ⟨(some 44), (.p (.bin .add (.t 42) (.t 43))), none⟩ :: ⟨(some 45), (.p (.mv (.t 12))), none⟩ :: ⟨(some 46), (.p (.bin .shr (.t 45) (.c (.int .u64 32)))), none⟩ :: ⟨(some 47), (.p (.bin .add (.t 44) (.t 46))), none⟩ :: ⟨(some 4), (.p (.mv (.t 47))), none⟩ :: []))
def k87_4 : ACode := (.region (⟨(some 48), (.p (.mv (.t 0))), none⟩ :: ⟨(some 49), (.p (.mv (.t 1))), none⟩ :: ⟨(some 50), (.p (.bin .mul (.t 48) (.t 49))), none⟩ :: ⟨(some 5), (.p (.mv (.t 50))), none⟩ :: []))
def k87_5 : ACode := (.seq k87_4 .ret)
def k87_6 : ACode := (.seq k87_3 k87_5)
def k87_7 : ACode := (.seq k87_2 k87_6)
def k87_8 : ACode := (.seq (.region (⟨(some 33), (.p (.mv (.t 11))), none⟩ :: ⟨(some 34), (.p (.bin .shr (.t 33) (.c (.int .u64 32)))), none⟩ :: ⟨(some 13), (.p (.mv (.t 34))), none⟩ :: [])) k87_7)
def k87_9 : ACode := (.seq (.region (⟨(some 31), (.p (.mv (.t 11))), none⟩ :: ⟨(some 32), (.p (.bin .and (.t 31) (.c (.int .u64 4294967295)))), none⟩ :: ⟨(some 12), (.p (.mv (.t 32))), none⟩ :: [])) k87_8)
def k87_10 : ACode := (.seq k87_1 k87_9)
def k87_11 : ACode := (.seq k87_0 k87_10)
def k87_12 : ACode := (.seq (.region (⟨(some 20), (.p (.mv (.t 1))), none⟩ :: ⟨(some 21), (.p (.bin .shr (.t 20) (.c (.int .u64 32)))), none⟩ :: ⟨(some 9), (.p (.mv (.t 21))), none⟩ :: [])) k87_11)
def k87_13 : ACode := (.seq (.region (⟨(some 18), (.p (.mv (.t 1))), none⟩ :: ⟨(some 19), (.p (.bin .and (.t 18) (.c (.int .u64 4294967295)))), none⟩ :: ⟨(some 8), (.p (.mv (.t 19))), none⟩ :: [])) k87_12)
def k87_14 : ACode := (.seq (.region (⟨(some 16), (.p (.mv (.t 0))), none⟩ :: ⟨(some 17), (.p (.bin .shr (.t 16) (.c (.int .u64 32)))), none⟩ :: ⟨(some 7), (.p (.mv (.t 17))), none⟩ :: [])) k87_13)
def k87_15 : ACode := (.seq (.region (⟨(some 14), (.p (.mv (.t 0))), none⟩ :: ⟨(some 15), (.p (.bin .and (.t 14) (.c (.int .u64 4294967295)))), none⟩ :: ⟨(some 6), (.p (.mv (.t 15))), none⟩ :: [])) k87_14)
def cd87 : ACode := (.seq (.region (⟨(some 4), (.p (.mv (.c (.int .u64 0)))), none⟩ :: ⟨(some 5), (.p (.mv (.c (.int .u64 0)))), none⟩ :: [])) k87_15)
def rs87 : List ARes := [(.tmp 4), (.tmp 5)]
def af87 : AFn := ⟨cd87, rs87, 51⟩
theorem c87 : compF Try.prog 87 = some af87 := by kernel_rfl
noncomputable def g_math_bits_Mul64 (p_x : Int) (p_y : Int) : Option (Int × Int) := (some ((IntKind.wrap .u64 ((IntKind.wrap .u64 ((IntKind.wrap .u64 ((Int.fdiv p_x 4294967296) * (Int.fdiv p_y 4294967296))) + (Int.fdiv (IntKind.wrap .u64 ((IntKind.wrap .u64 ((Int.fdiv p_x 4294967296) * (bits .and .u64 p_y 4294967295))) + (Int.fdiv (IntKind.wrap .u64 ((bits .and .u64 p_x 4294967295) * (bits .and .u64 p_y 4294967295))) 4294967296))) 4294967296))) + (Int.fdiv (IntKind.wrap .u64 ((bits .and .u64 (IntKind.wrap .u64 ((IntKind.wrap .u64 ((Int.fdiv p_x 4294967296) * (bits .and .u64 p_y 4294967295))) + (Int.fdiv (IntKind.wrap .u64 ((bits .and .u64 p_x 4294967295) * (bits .and .u64 p_y 4294967295))) 4294967296))) 4294967295) + (IntKind.wrap .u64 ((bits .and .u64 p_x 4294967295) * (Int.fdiv p_y 4294967296))))) 4294967296))), (IntKind.wrap .u64 (p_x * p_y))))
noncomputable def sp87 : List DV → Option DV := specT (fun (a : Int × Int) => [.int .u64 a.1, .int .u64 a.2]) (fun (r : (Int × Int)) => .tup [.int .u64 r.1, .int .u64 r.2]) (fun (a : Int × Int) => g_math_bits_Mul64 a.1 a.2)
theorem inj87 : ∀ (a b : Int × Int), List.map z1 ((fun (a : Int × Int) => [.int .u64 a.1, .int .u64 a.2]) a) = List.map z1 ((fun (a : Int × Int) => [.int .u64 a.1, .int .u64 a.2]) b) → a = b := by
 rintro ⟨a0, a1⟩ ⟨b0, b1⟩ h
 simp only [List.map_cons, List.map_nil, List.cons.injEq, and_true] at h
 obtain ⟨h0, h1⟩ := h
 exact (pair_eq (DV.int.inj h0).2 (DV.int.inj h1).2)
set_option maxHeartbeats 1000000 in
theorem w87 {C : FuncId → Con} (hC : ConOk Try.prog C) : ValOk Try.prog 87 sp87 := by
 refine valT_of hC c87 _ _ _ inj87 ?_
 rintro ⟨p_x, p_y⟩
 show Imq (g_math_bits_Mul64 p_x p_y) (fun _ => True) fun r => WP Try.prog C (fun _ => False) cd87 (retQ fun s => outV s rs87 = some (.tup [.int .u64 r.1, .int .u64 r.2])) ⟨⟨51, [(0, (.val (.int .u64 p_x))), (1, (.val (.int .u64 p_y)))]⟩, mkH []⟩
 unfold g_math_bits_Mul64
 refine G_seq ?_
 refine G_region ?_
 refine G_op [0] (v := (.val (.int .u64 0))) (E_p (by kernel_rfl)) rfl rfl ?_
 refine G_op [0] (v := (.val (.int .u64 0))) (E_p (by kernel_rfl)) rfl rfl ?_
 refine G_nil ?_
 refine G_then ?_
 refine G_seq ?_
 refine G_region ?_
 refine G_op [0] (v := (.val (.int .u64 p_x))) (E_p (by kernel_rfl)) rfl rfl ?_
 refine G_op [0] (v := (.val (.int .u64 (bits .and .u64 p_x 4294967295)))) (E_p (by kernel_rfl)) rfl rfl ?_
 refine G_op [0] (v := (.val (.int .u64 (bits .and .u64 p_x 4294967295)))) (E_p (by kernel_rfl)) rfl rfl ?_
 refine G_nil ?_
 refine G_then ?_
 refine G_seq ?_
 refine G_region ?_
 refine G_op [0] (v := (.val (.int .u64 p_x))) (E_p (by kernel_rfl)) rfl rfl ?_
 refine G_op [0] (v := (.val (.int .u64 (Int.fdiv p_x 4294967296)))) (E_p (by kernel_rfl)) rfl rfl ?_
 refine G_op [0] (v := (.val (.int .u64 (Int.fdiv p_x 4294967296)))) (E_p (by kernel_rfl)) rfl rfl ?_
 refine G_nil ?_
 refine G_then ?_
 refine G_seq ?_
 refine G_region ?_
 refine G_op [0] (v := (.val (.int .u64 p_y))) (E_p (by kernel_rfl)) rfl rfl ?_
 refine G_op [0] (v := (.val (.int .u64 (bits .and .u64 p_y 4294967295)))) (E_p (by kernel_rfl)) rfl rfl ?_
 refine G_op [0] (v := (.val (.int .u64 (bits .and .u64 p_y 4294967295)))) (E_p (by kernel_rfl)) rfl rfl ?_
 refine G_nil ?_
 refine G_then ?_
 refine G_seq ?_
 refine G_region ?_
 refine G_op [0] (v := (.val (.int .u64 p_y))) (E_p (by kernel_rfl)) rfl rfl ?_
 refine G_op [0] (v := (.val (.int .u64 (Int.fdiv p_y 4294967296)))) (E_p (by kernel_rfl)) rfl rfl ?_
 refine G_op [0] (v := (.val (.int .u64 (Int.fdiv p_y 4294967296)))) (E_p (by kernel_rfl)) rfl rfl ?_
 refine G_nil ?_
 refine G_then ?_
 refine G_seq ?_
 refine G_region ?_
 refine G_op [0] (v := (.val (.int .u64 (bits .and .u64 p_x 4294967295)))) (E_p (by kernel_rfl)) rfl rfl ?_
 refine G_op [0] (v := (.val (.int .u64 (bits .and .u64 p_y 4294967295)))) (E_p (by kernel_rfl)) rfl rfl ?_
 refine G_op [0] (v := (.val (.int .u64 (IntKind.wrap .u64 ((bits .and .u64 p_x 4294967295) * (bits .and .u64 p_y 4294967295)))))) (E_p (by kernel_rfl)) rfl rfl ?_
 refine G_op [0] (v := (.val (.int .u64 (IntKind.wrap .u64 ((bits .and .u64 p_x 4294967295) * (bits .and .u64 p_y 4294967295)))))) (E_p (by kernel_rfl)) rfl rfl ?_
 refine G_nil ?_
 refine G_then ?_
 refine G_subW (s0 := ⟨⟨51, [(10, (.val (.int .u64 (IntKind.wrap .u64 ((bits .and .u64 p_x 4294967295) * (bits .and .u64 p_y 4294967295)))))), (9, (.val (.int .u64 (Int.fdiv p_y 4294967296)))), (8, (.val (.int .u64 (bits .and .u64 p_y 4294967295)))), (7, (.val (.int .u64 (Int.fdiv p_x 4294967296)))), (6, (.val (.int .u64 (bits .and .u64 p_x 4294967295)))), (5, (.val (.int .u64 0))), (4, (.val (.int .u64 0))), (0, (.val (.int .u64 p_x))), (1, (.val (.int .u64 p_y)))]⟩, mkH []⟩) (by exact Sub_env ⟨.refl _, .refl _, .refl _, .refl _, .refl _, .refl _, .refl _, .refl _, .refl _, trivial⟩) ?_
 refine G_seq ?_
 refine G_region ?_
 refine G_op [0] (v := (.val (.int .u64 (Int.fdiv p_x 4294967296)))) (E_p (by kernel_rfl)) rfl rfl ?_
 refine G_op [0] (v := (.val (.int .u64 (bits .and .u64 p_y 4294967295)))) (E_p (by kernel_rfl)) rfl rfl ?_
 refine G_op [0] (v := (.val (.int .u64 (IntKind.wrap .u64 ((Int.fdiv p_x 4294967296) * (bits .and .u64 p_y 4294967295)))))) (E_p (by kernel_rfl)) rfl rfl ?_
 refine G_op [0] (v := (.val (.int .u64 (IntKind.wrap .u64 ((bits .and .u64 p_x 4294967295) * (bits .and .u64 p_y 4294967295)))))) (E_p (by kernel_rfl)) rfl rfl ?_
 refine G_op [0] (v := (.val (.int .u64 (Int.fdiv (IntKind.wrap .u64 ((bits .and .u64 p_x 4294967295) * (bits .and .u64 p_y 4294967295))) 4294967296)))) (E_p (by kernel_rfl)) rfl rfl ?_
 refine G_op [0] (v := (.val (.int .u64 (IntKind.wrap .u64 ((IntKind.wrap .u64 ((Int.fdiv p_x 4294967296) * (bits .and .u64 p_y 4294967295))) + (Int.fdiv (IntKind.wrap .u64 ((bits .and .u64 p_x 4294967295) * (bits .and .u64 p_y 4294967295))) 4294967296)))))) (E_p (by kernel_rfl)) rfl rfl ?_
 refine G_op [0] (v := (.val (.int .u64 (IntKind.wrap .u64 ((IntKind.wrap .u64 ((Int.fdiv p_x 4294967296) * (bits .and .u64 p_y 4294967295))) + (Int.fdiv (IntKind.wrap .u64 ((bits .and .u64 p_x 4294967295) * (bits .and .u64 p_y 4294967295))) 4294967296)))))) (E_p (by kernel_rfl)) rfl rfl ?_
 refine G_nil ?_
 refine G_then ?_
 refine G_seq ?_
 refine G_region ?_
 refine G_op [0] (v := (.val (.int .u64 (IntKind.wrap .u64 ((IntKind.wrap .u64 ((Int.fdiv p_x 4294967296) * (bits .and .u64 p_y 4294967295))) + (Int.fdiv (IntKind.wrap .u64 ((bits .and .u64 p_x 4294967295) * (bits .and .u64 p_y 4294967295))) 4294967296)))))) (E_p (by kernel_rfl)) rfl rfl ?_
 refine G_op [0] (v := (.val (.int .u64 (bits .and .u64 (IntKind.wrap .u64 ((IntKind.wrap .u64 ((Int.fdiv p_x 4294967296) * (bits .and .u64 p_y 4294967295))) + (Int.fdiv (IntKind.wrap .u64 ((bits .and .u64 p_x 4294967295) * (bits .and .u64 p_y 4294967295))) 4294967296))) 4294967295)))) (E_p (by kernel_rfl)) rfl rfl ?_
 refine G_op [0] (v := (.val (.int .u64 (bits .and .u64 (IntKind.wrap .u64 ((IntKind.wrap .u64 ((Int.fdiv p_x 4294967296) * (bits .and .u64 p_y 4294967295))) + (Int.fdiv (IntKind.wrap .u64 ((bits .and .u64 p_x 4294967295) * (bits .and .u64 p_y 4294967295))) 4294967296))) 4294967295)))) (E_p (by kernel_rfl)) rfl rfl ?_
 refine G_nil ?_
 refine G_then ?_
 refine G_subW (s0 := ⟨⟨51, [(12, (.val (.int .u64 (bits .and .u64 (IntKind.wrap .u64 ((IntKind.wrap .u64 ((Int.fdiv p_x 4294967296) * (bits .and .u64 p_y 4294967295))) + (Int.fdiv (IntKind.wrap .u64 ((bits .and .u64 p_x 4294967295) * (bits .and .u64 p_y 4294967295))) 4294967296))) 4294967295)))), (11, (.val (.int .u64 (IntKind.wrap .u64 ((IntKind.wrap .u64 ((Int.fdiv p_x 4294967296) * (bits .and .u64 p_y 4294967295))) + (Int.fdiv (IntKind.wrap .u64 ((bits .and .u64 p_x 4294967295) * (bits .and .u64 p_y 4294967295))) 4294967296)))))), (9, (.val (.int .u64 (Int.fdiv p_y 4294967296)))), (7, (.val (.int .u64 (Int.fdiv p_x 4294967296)))), (6, (.val (.int .u64 (bits .and .u64 p_x 4294967295)))), (5, (.val (.int .u64 0))), (4, (.val (.int .u64 0))), (0, (.val (.int .u64 p_x))), (1, (.val (.int .u64 p_y)))]⟩, mkH []⟩) (by exact Sub_env ⟨.refl _, .refl _, .refl _, .refl _, .refl _, .refl _, .refl _, .refl _, .refl _, trivial⟩) ?_
 refine G_seq ?_
 refine G_region ?_
 refine G_op [0] (v := (.val (.int .u64 (IntKind.wrap .u64 ((IntKind.wrap .u64 ((Int.fdiv p_x 4294967296) * (bits .and .u64 p_y 4294967295))) + (Int.fdiv (IntKind.wrap .u64 ((bits .and .u64 p_x 4294967295) * (bits .and .u64 p_y 4294967295))) 4294967296)))))) (E_p (by kernel_rfl)) rfl rfl ?_
 refine G_op [0] (v := (.val (.int .u64 (Int.fdiv (IntKind.wrap .u64 ((IntKind.wrap .u64 ((Int.fdiv p_x 4294967296) * (bits .and .u64 p_y 4294967295))) + (Int.fdiv (IntKind.wrap .u64 ((bits .and .u64 p_x 4294967295) * (bits .and .u64 p_y 4294967295))) 4294967296))) 4294967296)))) (E_p (by kernel_rfl)) rfl rfl ?_
 refine G_op [0] (v := (.val (.int .u64 (Int.fdiv (IntKind.wrap .u64 ((IntKind.wrap .u64 ((Int.fdiv p_x 4294967296) * (bits .and .u64 p_y 4294967295))) + (Int.fdiv (IntKind.wrap .u64 ((bits .and .u64 p_x 4294967295) * (bits .and .u64 p_y 4294967295))) 4294967296))) 4294967296)))) (E_p (by kernel_rfl)) rfl rfl ?_
 refine G_nil ?_
 refine G_then ?_
 refine G_seq ?_
 refine G_region ?_
 refine G_op [0] (v := (.val (.int .u64 (bits .and .u64 (IntKind.wrap .u64 ((IntKind.wrap .u64 ((Int.fdiv p_x 4294967296) * (bits .and .u64 p_y 4294967295))) + (Int.fdiv (IntKind.wrap .u64 ((bits .and .u64 p_x 4294967295) * (bits .and .u64 p_y 4294967295))) 4294967296))) 4294967295)))) (E_p (by kernel_rfl)) rfl rfl ?_
 refine G_op [0] (v := (.val (.int .u64 (bits .and .u64 p_x 4294967295)))) (E_p (by kernel_rfl)) rfl rfl ?_
 refine G_op [0] (v := (.val (.int .u64 (Int.fdiv p_y 4294967296)))) (E_p (by kernel_rfl)) rfl rfl ?_
 refine G_op [0] (v := (.val (.int .u64 (IntKind.wrap .u64 ((bits .and .u64 p_x 4294967295) * (Int.fdiv p_y 4294967296)))))) (E_p (by kernel_rfl)) rfl rfl ?_
 refine G_op [0] (v := (.val (.int .u64 (IntKind.wrap .u64 ((bits .and .u64 (IntKind.wrap .u64 ((IntKind.wrap .u64 ((Int.fdiv p_x 4294967296) * (bits .and .u64 p_y 4294967295))) + (Int.fdiv (IntKind.wrap .u64 ((bits .and .u64 p_x 4294967295) * (bits .and .u64 p_y 4294967295))) 4294967296))) 4294967295) + (IntKind.wrap .u64 ((bits .and .u64 p_x 4294967295) * (Int.fdiv p_y 4294967296)))))))) (E_p (by kernel_rfl)) rfl rfl ?_
 refine G_op [0] (v := (.val (.int .u64 (IntKind.wrap .u64 ((bits .and .u64 (IntKind.wrap .u64 ((IntKind.wrap .u64 ((Int.fdiv p_x 4294967296) * (bits .and .u64 p_y 4294967295))) + (Int.fdiv (IntKind.wrap .u64 ((bits .and .u64 p_x 4294967295) * (bits .and .u64 p_y 4294967295))) 4294967296))) 4294967295) + (IntKind.wrap .u64 ((bits .and .u64 p_x 4294967295) * (Int.fdiv p_y 4294967296)))))))) (E_p (by kernel_rfl)) rfl rfl ?_
 refine G_nil ?_
 refine G_then ?_
 refine G_subW (s0 := ⟨⟨51, [(12, (.val (.int .u64 (IntKind.wrap .u64 ((bits .and .u64 (IntKind.wrap .u64 ((IntKind.wrap .u64 ((Int.fdiv p_x 4294967296) * (bits .and .u64 p_y 4294967295))) + (Int.fdiv (IntKind.wrap .u64 ((bits .and .u64 p_x 4294967295) * (bits .and .u64 p_y 4294967295))) 4294967296))) 4294967295) + (IntKind.wrap .u64 ((bits .and .u64 p_x 4294967295) * (Int.fdiv p_y 4294967296)))))))), (13, (.val (.int .u64 (Int.fdiv (IntKind.wrap .u64 ((IntKind.wrap .u64 ((Int.fdiv p_x 4294967296) * (bits .and .u64 p_y 4294967295))) + (Int.fdiv (IntKind.wrap .u64 ((bits .and .u64 p_x 4294967295) * (bits .and .u64 p_y 4294967295))) 4294967296))) 4294967296)))), (9, (.val (.int .u64 (Int.fdiv p_y 4294967296)))), (7, (.val (.int .u64 (Int.fdiv p_x 4294967296)))), (5, (.val (.int .u64 0))), (4, (.val (.int .u64 0))), (0, (.val (.int .u64 p_x))), (1, (.val (.int .u64 p_y)))]⟩, mkH []⟩) (by exact Sub_env ⟨.refl _, .refl _, .refl _, .refl _, .refl _, .refl _, .refl _, .refl _, trivial⟩) ?_
 refine G_seq ?_
 refine G_region ?_
 refine G_op [0] (v := (.val (.int .u64 (Int.fdiv p_x 4294967296)))) (E_p (by kernel_rfl)) rfl rfl ?_
 refine G_op [0] (v := (.val (.int .u64 (Int.fdiv p_y 4294967296)))) (E_p (by kernel_rfl)) rfl rfl ?_
 refine G_op [0] (v := (.val (.int .u64 (IntKind.wrap .u64 ((Int.fdiv p_x 4294967296) * (Int.fdiv p_y 4294967296)))))) (E_p (by kernel_rfl)) rfl rfl ?_
 refine G_op [0] (v := (.val (.int .u64 (Int.fdiv (IntKind.wrap .u64 ((IntKind.wrap .u64 ((Int.fdiv p_x 4294967296) * (bits .and .u64 p_y 4294967295))) + (Int.fdiv (IntKind.wrap .u64 ((bits .and .u64 p_x 4294967295) * (bits .and .u64 p_y 4294967295))) 4294967296))) 4294967296)))) (E_p (by kernel_rfl)) rfl rfl ?_
 refine G_op [0] (v := (.val (.int .u64 (IntKind.wrap .u64 ((IntKind.wrap .u64 ((Int.fdiv p_x 4294967296) * (Int.fdiv p_y 4294967296))) + (Int.fdiv (IntKind.wrap .u64 ((IntKind.wrap .u64 ((Int.fdiv p_x 4294967296) * (bits .and .u64 p_y 4294967295))) + (Int.fdiv (IntKind.wrap .u64 ((bits .and .u64 p_x 4294967295) * (bits .and .u64 p_y 4294967295))) 4294967296))) 4294967296)))))) (E_p (by kernel_rfl)) rfl rfl ?_
 refine G_op [0] (v := (.val (.int .u64 (IntKind.wrap .u64 ((bits .and .u64 (IntKind.wrap .u64 ((IntKind.wrap .u64 ((Int.fdiv p_x 4294967296) * (bits .and .u64 p_y 4294967295))) + (Int.fdiv (IntKind.wrap .u64 ((bits .and .u64 p_x 4294967295) * (bits .and .u64 p_y 4294967295))) 4294967296))) 4294967295) + (IntKind.wrap .u64 ((bits .and .u64 p_x 4294967295) * (Int.fdiv p_y 4294967296)))))))) (E_p (by kernel_rfl)) rfl rfl ?_
 refine G_op [0] (v := (.val (.int .u64 (Int.fdiv (IntKind.wrap .u64 ((bits .and .u64 (IntKind.wrap .u64 ((IntKind.wrap .u64 ((Int.fdiv p_x 4294967296) * (bits .and .u64 p_y 4294967295))) + (Int.fdiv (IntKind.wrap .u64 ((bits .and .u64 p_x 4294967295) * (bits .and .u64 p_y 4294967295))) 4294967296))) 4294967295) + (IntKind.wrap .u64 ((bits .and .u64 p_x 4294967295) * (Int.fdiv p_y 4294967296))))) 4294967296)))) (E_p (by kernel_rfl)) rfl rfl ?_
 refine G_op [0] (v := (.val (.int .u64 (IntKind.wrap .u64 ((IntKind.wrap .u64 ((IntKind.wrap .u64 ((Int.fdiv p_x 4294967296) * (Int.fdiv p_y 4294967296))) + (Int.fdiv (IntKind.wrap .u64 ((IntKind.wrap .u64 ((Int.fdiv p_x 4294967296) * (bits .and .u64 p_y 4294967295))) + (Int.fdiv (IntKind.wrap .u64 ((bits .and .u64 p_x 4294967295) * (bits .and .u64 p_y 4294967295))) 4294967296))) 4294967296))) + (Int.fdiv (IntKind.wrap .u64 ((bits .and .u64 (IntKind.wrap .u64 ((IntKind.wrap .u64 ((Int.fdiv p_x 4294967296) * (bits .and .u64 p_y 4294967295))) + (Int.fdiv (IntKind.wrap .u64 ((bits .and .u64 p_x 4294967295) * (bits .and .u64 p_y 4294967295))) 4294967296))) 4294967295) + (IntKind.wrap .u64 ((bits .and .u64 p_x 4294967295) * (Int.fdiv p_y 4294967296))))) 4294967296)))))) (E_p (by kernel_rfl)) rfl rfl ?_
 refine G_op [0] (v := (.val (.int .u64 (IntKind.wrap .u64 ((IntKind.wrap .u64 ((IntKind.wrap .u64 ((Int.fdiv p_x 4294967296) * (Int.fdiv p_y 4294967296))) + (Int.fdiv (IntKind.wrap .u64 ((IntKind.wrap .u64 ((Int.fdiv p_x 4294967296) * (bits .and .u64 p_y 4294967295))) + (Int.fdiv (IntKind.wrap .u64 ((bits .and .u64 p_x 4294967295) * (bits .and .u64 p_y 4294967295))) 4294967296))) 4294967296))) + (Int.fdiv (IntKind.wrap .u64 ((bits .and .u64 (IntKind.wrap .u64 ((IntKind.wrap .u64 ((Int.fdiv p_x 4294967296) * (bits .and .u64 p_y 4294967295))) + (Int.fdiv (IntKind.wrap .u64 ((bits .and .u64 p_x 4294967295) * (bits .and .u64 p_y 4294967295))) 4294967296))) 4294967295) + (IntKind.wrap .u64 ((bits .and .u64 p_x 4294967295) * (Int.fdiv p_y 4294967296))))) 4294967296)))))) (E_p (by kernel_rfl)) rfl rfl ?_
 refine G_nil ?_
 refine G_then ?_
 refine G_subW (s0 := ⟨⟨51, [(4, (.val (.int .u64 (IntKind.wrap .u64 ((IntKind.wrap .u64 ((IntKind.wrap .u64 ((Int.fdiv p_x 4294967296) * (Int.fdiv p_y 4294967296))) + (Int.fdiv (IntKind.wrap .u64 ((IntKind.wrap .u64 ((Int.fdiv p_x 4294967296) * (bits .and .u64 p_y 4294967295))) + (Int.fdiv (IntKind.wrap .u64 ((bits .and .u64 p_x 4294967295) * (bits .and .u64 p_y 4294967295))) 4294967296))) 4294967296))) + (Int.fdiv (IntKind.wrap .u64 ((bits .and .u64 (IntKind.wrap .u64 ((IntKind.wrap .u64 ((Int.fdiv p_x 4294967296) * (bits .and .u64 p_y 4294967295))) + (Int.fdiv (IntKind.wrap .u64 ((bits .and .u64 p_x 4294967295) * (bits .and .u64 p_y 4294967295))) 4294967296))) 4294967295) + (IntKind.wrap .u64 ((bits .and .u64 p_x 4294967295) * (Int.fdiv p_y 4294967296))))) 4294967296)))))), (5, (.val (.int .u64 0))), (0, (.val (.int .u64 p_x))), (1, (.val (.int .u64 p_y)))]⟩, mkH []⟩) (by exact Sub_env ⟨.refl _, .refl _, .refl _, .refl _, trivial⟩) ?_
 refine G_seq ?_
 refine G_region ?_
 refine G_op [0] (v := (.val (.int .u64 p_x))) (E_p (by kernel_rfl)) rfl rfl ?_
 refine G_op [0] (v := (.val (.int .u64 p_y))) (E_p (by kernel_rfl)) rfl rfl ?_
 refine G_op [0] (v := (.val (.int .u64 (IntKind.wrap .u64 (p_x * p_y))))) (E_p (by kernel_rfl)) rfl rfl ?_
 refine G_op [0] (v := (.val (.int .u64 (IntKind.wrap .u64 (p_x * p_y))))) (E_p (by kernel_rfl)) rfl rfl ?_
 refine G_nil ?_
 refine G_then ?_
 refine G_ret ?_
 refine G_retR ?_
 refine q_some fun hA => ?_
 show outV _ _ = some _
 kernel_rfl
theorem s87 (x0 : Int) (x1 : Int) (ds : List DV) (hd : List.map z1 ds = List.map z1 [.int .u64 x0, .int .u64 x1]) : sp87 ds = (g_math_bits_Mul64 x0 x1).map fun r => .tup [.int .u64 r.1, .int .u64 r.2] :=
 specT_at (ea := fun (a : Int × Int) => [.int .u64 a.1, .int .u64 a.2]) (eb := fun (r : (Int × Int)) => .tup [.int .u64 r.1, .int .u64 r.2]) (g := fun (a : Int × Int) => g_math_bits_Mul64 a.1 a.2) inj87 (x0, x1) hd

def t73_1 : List AIns := (⟨(some 22), (.p (.mv (.t 31))), none⟩ :: [])
def t73_2 : List AIns := (⟨(some 35), (.p (.mv (.t 41))), none⟩ :: [])
def t73_0 : List AIns := (⟨(some 28), (.p (.mv (.t 27))), none⟩ :: ⟨(some 29), (.p (.mv (.t 7))), (some (28, true))⟩ :: ⟨(some 30), (.p (.bin .leq (.t 29) (.c (.int .u64 9223372036854775808)))), (some (28, true))⟩ :: ⟨(some 31), (.p (.pick (.t 28) (.t 30) (.c (.bool false)))), none⟩ :: t73_1)
def k73_0 : ACode := (.region (⟨(some 10), (.p (.mv (.t 0))), none⟩ :: ⟨(some 11), (.r (.call 88 [(.t 10)])), none⟩ :: ⟨(some 12), (.p (.mv (.t 1))), none⟩ :: ⟨(some 13), (.r (.call 88 [(.t 12)])), none⟩ :: ⟨(some 14), (.r (.call 87 [(.t 11), (.t 13)])), none⟩ :: ⟨(some 9), (.p (.mv (.t 14))), none⟩ :: ⟨(some 15), (.p (.ext (.t 9) 0)), none⟩ :: ⟨(some 16), (.p (.ext (.t 9) 1)), none⟩ :: ⟨(some 6), (.p (.mv (.t 15))), none⟩ :: ⟨(some 7), (.p (.mv (.t 16))), none⟩ :: []))
def k73_1 : ACode := (.region (⟨(some 17), (.p (.mv (.t 0))), none⟩ :: ⟨(some 18), (.p (.bin .lss (.t 17) (.c (.int .i64 0)))), none⟩ :: ⟨(some 19), (.p (.mv (.t 1))), none⟩ :: ⟨(some 20), (.p (.bin .lss (.t 19) (.c (.int .i64 0)))), none⟩ :: ⟨(some 21), (.p (.eqb true (.t 18) (.t 20))), none⟩ :: ⟨(some 8), (.p (.mv (.t 21))), none⟩ :: []))
def k73_2 : ACode := (.region (⟨(some 23), (.p (.mv (.t 6))), none⟩ :: ⟨(some 24), (.p (.bin .eql (.t 23) (.c (.int .u64 0)))), none⟩ :: ⟨(some 25), (.p (.mv (.t 24))), none⟩ :: ⟨(some 26), (.p (.mv (.t 8))), (some (25, true))⟩ :: ⟨(some 27), (.p (.pick (.t 25) (.t 26) (.c (.bool false)))), none⟩ :: t73_0))
def k73_3 : ACode := (.region (⟨(some 32), (.p (.mv (.t 7))), none⟩ :: ⟨(some 33), (.p (.un .neg (.t 32))), none⟩ :: ⟨(some 34), (.p (.conv .i64 (.t 33))), none⟩ :: ⟨(some 4), (.p (.mv (.t 34))), none⟩ :: ⟨(some 5), (.p (.mv (.c (.int .i64 0)))), none⟩ :: []))
def k73_4 : ACode := (.seq k73_3 .ret)
def k73_5 : ACode := (.region (⟨(some 36), (.p (.mv (.t 6))), none⟩ :: ⟨(some 37), (.p (.bin .eql (.t 36) (.c (.int .u64 0)))), none⟩ :: ⟨(some 38), (.p (.mv (.t 37))), none⟩ :: ⟨(some 39), (.p (.mv (.t 7))), (some (38, true))⟩ :: ⟨(some 40), (.p (.bin .leq (.t 39) (.c (.int .u64 9223372036854775807)))), (some (38, true))⟩ :: ⟨(some 41), (.p (.pick (.t 38) (.t 40) (.c (.bool false)))), none⟩ :: t73_2))
def k73_6 : ACode := (.region (⟨(some 42), (.p (.mv (.t 7))), none⟩ :: ⟨(some 43), (.p (.conv .i64 (.t 42))), none⟩ :: ⟨(some 4), (.p (.mv (.t 43))), none⟩ :: ⟨(some 5), (.p (.mv (.c (.int .i64 0)))), none⟩ :: []))
def k73_7 : ACode := (.seq k73_6 .ret)
def k73_8 : ACode := (.cond (.t 35) k73_7 .skip)
def k73_9 : ACode := (.seq k73_5 k73_8)
def k73_10 : ACode := (.cond (.t 22) k73_4 k73_9)
def k73_11 : ACode := (.seq k73_2 k73_10)
def k73_12 : ACode := (.block 0 k73_11)
def k73_13 : ACode := (.seq k73_12 (.seq (.region (⟨(some 4), (.p (.mv (.c (.int .i64 0)))), none⟩ :: ⟨(some 5), (.p (.mv (.c (.int .i64 3)))), none⟩ :: [])) .ret))
def k73_14 : ACode := (.seq k73_1 k73_13)
def k73_15 : ACode := (.seq k73_0 k73_14)
def cd73 : ACode := (.seq (.region (⟨(some 4), (.p (.mv (.c (.int .i64 0)))), none⟩ :: ⟨(some 5), (.p (.mv (.c (.int .i64 0)))), none⟩ :: [])) k73_15)
def rs73 : List ARes := [(.tmp 4), (.tmp 5)]
def af73 : AFn := ⟨cd73, rs73, 44⟩
theorem c73 : compF Try.prog 73 = some af73 := by kernel_rfl
noncomputable def g_num_Mul (p_a : Int) (p_b : Int) : Option (Int × Int) := (Option.bind (g_num_size p_a) fun v1 => (Option.bind (g_num_size p_b) fun v2 => (Option.bind (g_math_bits_Mul64 v1 v2) fun v3 => (bif (((v3.1 == 0) && ((decide (p_a < 0)) != (decide (p_b < 0)))) && (decide (v3.2 ≤ 9223372036854775808))) then (some ((IntKind.wrap .i64 (IntKind.wrap .u64 (0 - v3.2))), 0)) else (bif ((v3.1 == 0) && (decide (v3.2 ≤ 9223372036854775807))) then (some ((IntKind.wrap .i64 v3.2), 0)) else (some (0, 3)))))))
noncomputable def sp73 : List DV → Option DV := specT (fun (a : Int × Int) => [.int .i64 a.1, .int .i64 a.2]) (fun (r : (Int × Int)) => .tup [.int .i64 r.1, .int .i64 r.2]) (fun (a : Int × Int) => g_num_Mul a.1 a.2)
theorem inj73 : ∀ (a b : Int × Int), List.map z1 ((fun (a : Int × Int) => [.int .i64 a.1, .int .i64 a.2]) a) = List.map z1 ((fun (a : Int × Int) => [.int .i64 a.1, .int .i64 a.2]) b) → a = b := by
 rintro ⟨a0, a1⟩ ⟨b0, b1⟩ h
 simp only [List.map_cons, List.map_nil, List.cons.injEq, and_true] at h
 obtain ⟨h0, h1⟩ := h
 exact (pair_eq (DV.int.inj h0).2 (DV.int.inj h1).2)
set_option maxHeartbeats 1000000 in
theorem w73 {C : FuncId → Con} (hC : ConOk Try.prog C) {q88 : List DV → Option DV} (hc88 : C 88 = .val q88) (hs88 : ∀ (x0 : Int) (ds : List DV), List.map z1 ds = List.map z1 [.int .i64 x0] → q88 ds = (g_num_size x0).map fun r => .int .u64 r) {q87 : List DV → Option DV} (hc87 : C 87 = .val q87) (hs87 : ∀ (x0 : Int) (x1 : Int) (ds : List DV), List.map z1 ds = List.map z1 [.int .u64 x0, .int .u64 x1] → q87 ds = (g_math_bits_Mul64 x0 x1).map fun r => .tup [.int .u64 r.1, .int .u64 r.2]) : ValOk Try.prog 73 sp73 := by
 refine valT_of hC c73 _ _ _ inj73 ?_
 rintro ⟨p_a, p_b⟩
 show Imq (g_num_Mul p_a p_b) (fun _ => True) fun r => WP Try.prog C (fun _ => False) cd73 (retQ fun s => outV s rs73 = some (.tup [.int .i64 r.1, .int .i64 r.2])) ⟨⟨44, [(0, (ii p_a)), (1, (ii p_b))]⟩, mkH []⟩
 unfold g_num_Mul
 refine G_seq ?_
 refine G_region ?_
 refine G_op [0] (v := (ii 0)) (E_p (by kernel_rfl)) rfl rfl ?_
 refine G_op [0] (v := (ii 0)) (E_p (by kernel_rfl)) rfl rfl ?_
 refine G_nil ?_
 refine G_then ?_
 refine G_seq ?_
 refine G_region ?_
 refine G_op [0] (v := (ii p_a)) (E_p (by kernel_rfl)) rfl rfl ?_
 refine q_bind fun v1 hv1 => ?_
 refine G_op [0] (v := (.val (.int .u64 v1))) (E_call (ds := [.int .i64 p_a]) (r := .int .u64 v1) hc88 (by kernel_rfl) ((hs88 p_a _ (by kernel_rfl)).trans (congrArg _ hv1))) rfl rfl ?_
 refine G_op [0] (v := (ii p_b)) (E_p (by kernel_rfl)) rfl rfl ?_
 refine q_bind fun v2 hv2 => ?_
 refine G_op [0] (v := (.val (.int .u64 v2))) (E_call (ds := [.int .i64 p_b]) (r := .int .u64 v2) hc88 (by kernel_rfl) ((hs88 p_b _ (by kernel_rfl)).trans (congrArg _ hv2))) rfl rfl ?_
 refine q_bind fun v3 hv3 => ?_
 refine G_op [0] (v := (.val (.tup [(.int .u64 v3.1), (.int .u64 v3.2)]))) (E_call (ds := [.int .u64 v1, .int .u64 v2]) (r := .tup [.int .u64 v3.1, .int .u64 v3.2]) hc87 (by kernel_rfl) ((hs87 v1 v2 _ (by kernel_rfl)).trans (congrArg _ hv3))) rfl rfl ?_
 refine G_op [0] (v := (.val (.tup [(.int .u64 v3.1), (.int .u64 v3.2)]))) (E_p (by kernel_rfl)) rfl rfl ?_
 refine G_op [0] (v := (.val (.int .u64 v3.1))) (E_p (by kernel_rfl)) rfl rfl ?_
 refine G_op [0] (v := (.val (.int .u64 v3.2))) (E_p (by kernel_rfl)) rfl rfl ?_
 refine G_op [0] (v := (.val (.int .u64 v3.1))) (E_p (by kernel_rfl)) rfl rfl ?_
 refine G_op [0] (v := (.val (.int .u64 v3.2))) (E_p (by kernel_rfl)) rfl rfl ?_
 refine G_nil ?_
 refine G_then ?_
 refine G_seq ?_
 refine G_region ?_
 refine G_op [0] (v := (ii p_a)) (E_p (by kernel_rfl)) rfl rfl ?_
 refine G_op [0] (v := (bb ((decide (p_a < 0))))) (E_p (by kernel_rfl)) rfl rfl ?_
 refine G_op [0] (v := (ii p_b)) (E_p (by kernel_rfl)) rfl rfl ?_
 refine G_op [0] (v := (bb ((decide (p_b < 0))))) (E_p (by kernel_rfl)) rfl rfl ?_
 refine G_op [0] (v := (bb (((decide (p_a < 0)) != (decide (p_b < 0)))))) (E_p (by kernel_rfl)) rfl rfl ?_
 refine G_op [0] (v := (bb (((decide (p_a < 0)) != (decide (p_b < 0)))))) (E_p (by kernel_rfl)) rfl rfl ?_
 refine G_nil ?_
 refine G_then ?_
 refine G_subW (s0 := ⟨⟨44, [(8, (bb (((decide (p_a < 0)) != (decide (p_b < 0)))))), (7, (.val (.int .u64 v3.2))), (6, (.val (.int .u64 v3.1))), (5, (ii 0)), (4, (ii 0))]⟩, mkH []⟩) (by exact Sub_env ⟨.refl _, .refl _, .refl _, .refl _, .refl _, trivial⟩) ?_
 refine G_seq ?_
 refine G_block ?_
 refine G_seq ?_
 refine G_region ?_
 refine G_op [0] (v := (.val (.int .u64 v3.1))) (E_p (by kernel_rfl)) rfl rfl ?_
 refine G_op [0] (v := (bb ((v3.1 == 0)))) (E_p (by kernel_rfl)) rfl rfl ?_
 refine G_op [0] (v := (bb ((v3.1 == 0)))) (E_p (by kernel_rfl)) rfl rfl ?_
 refine G_pure (l := t73_0) (st := ⟨⟨44, [(27, (bb (((v3.1 == 0) && ((decide (p_a < 0)) != (decide (p_b < 0))))))), (7, (.val (.int .u64 v3.2))), (6, (.val (.int .u64 v3.1))), (5, (ii 0)), (4, (ii 0))]⟩, mkH []⟩) ?_ (fun r6 => ?_)
 ·refine G_op [0] (v := (bb (((v3.1 == 0) && ((decide (p_a < 0)) != (decide (p_b < 0))))))) (E_p (by kernel_rfl)) rfl rfl ?_
  refine G_pure (l := t73_1) (st := ⟨⟨44, [(31, (bb ((((v3.1 == 0) && ((decide (p_a < 0)) != (decide (p_b < 0)))) && (decide (v3.2 ≤ 9223372036854775808)))))), (7, (.val (.int .u64 v3.2))), (6, (.val (.int .u64 v3.1))), (5, (ii 0)), (4, (ii 0))]⟩, mkH []⟩) ?_ (fun r9 => ?_)
  ·refine G_op [0] (v := (bb ((((v3.1 == 0) && ((decide (p_a < 0)) != (decide (p_b < 0)))) && (decide (v3.2 ≤ 9223372036854775808)))))) (E_p (by kernel_rfl)) rfl rfl ?_
   refine G_nil ?_
   refine G_then ?_
   refine G_cond (t := (((v3.1 == 0) && ((decide (p_a < 0)) != (decide (p_b < 0)))) && (decide (v3.2 ≤ 9223372036854775808)))) (by kernel_rfl) (fun _ => ?_) (fun _ => ?_)
   ·refine G_seq ?_
    refine G_region ?_
    refine G_op [0] (v := (.val (.int .u64 v3.2))) (E_p (by kernel_rfl)) rfl rfl ?_
    refine G_op [0] (v := (.val (.int .u64 (IntKind.wrap .u64 (0 - v3.2))))) (E_p (by kernel_rfl)) rfl rfl ?_
    refine G_op [0] (v := (ii ((IntKind.wrap .i64 (IntKind.wrap .u64 (0 - v3.2)))))) (E_p (by kernel_rfl)) rfl rfl ?_
    refine G_op [0] (v := (ii ((IntKind.wrap .i64 (IntKind.wrap .u64 (0 - v3.2)))))) (E_p (by kernel_rfl)) rfl rfl ?_
    refine G_op [0] (v := (ii 0)) (E_p (by kernel_rfl)) rfl rfl ?_
    refine G_nil ?_
    refine G_then ?_
    refine G_ret ?_
    refine G_inBR ?_
    refine G_thenR ?_
    refine G_retR ?_
    refine q_some fun hA => ?_
    show outV _ _ = some _
    kernel_rfl
   ·refine G_seq ?_
    refine G_region ?_
    refine G_op [0] (v := (.val (.int .u64 v3.1))) (E_p (by kernel_rfl)) rfl rfl ?_
    refine G_op [0] (v := (bb ((v3.1 == 0)))) (E_p (by kernel_rfl)) rfl rfl ?_
    refine G_op [0] (v := (bb ((v3.1 == 0)))) (E_p (by kernel_rfl)) rfl rfl ?_
    refine G_pure (l := t73_2) (st := ⟨⟨44, [(41, (bb (((v3.1 == 0) && (decide (v3.2 ≤ 9223372036854775807)))))), (7, (.val (.int .u64 v3.2))), (5, (ii 0)), (4, (ii 0))]⟩, mkH []⟩) ?_ (fun r12 => ?_)
    ·refine G_op [0] (v := (bb (((v3.1 == 0) && (decide (v3.2 ≤ 9223372036854775807)))))) (E_p (by kernel_rfl)) rfl rfl ?_
     refine G_nil ?_
     refine G_then ?_
     refine G_cond (t := ((v3.1 == 0) && (decide (v3.2 ≤ 9223372036854775807)))) (by kernel_rfl) (fun _ => ?_) (fun _ => ?_)
     ·refine G_seq ?_
      refine G_region ?_
      refine G_op [0] (v := (.val (.int .u64 v3.2))) (E_p (by kernel_rfl)) rfl rfl ?_
      refine G_op [0] (v := (ii ((IntKind.wrap .i64 v3.2)))) (E_p (by kernel_rfl)) rfl rfl ?_
      refine G_op [0] (v := (ii ((IntKind.wrap .i64 v3.2)))) (E_p (by kernel_rfl)) rfl rfl ?_
      refine G_op [0] (v := (ii 0)) (E_p (by kernel_rfl)) rfl rfl ?_
      refine G_nil ?_
      refine G_then ?_
      refine G_ret ?_
      refine G_inBR ?_
      refine G_thenR ?_
      refine G_retR ?_
      refine q_some fun hA => ?_
      show outV _ _ = some _
      kernel_rfl
     ·refine G_skip ?_
      refine G_inB ?_
      refine G_then ?_
      refine G_seq ?_
      refine G_region ?_
      refine G_op [0] (v := (ii 0)) (E_p (by kernel_rfl)) rfl rfl ?_
      refine G_op [0] (v := (ii 3)) (E_p (by kernel_rfl)) rfl rfl ?_
      refine G_nil ?_
      refine G_then ?_
      refine G_ret ?_
      refine G_retR ?_
      refine q_some fun hA => ?_
      show outV _ _ = some _
      kernel_rfl
    ·refine q_two (v3.1 == 0) (fun h10 => ?_) (fun h10 => ?_)
     ·refine G_subR (Sub_lit (t := 38) (v := true) rfl h10) ?_
      refine G_op [0] (v := (.val (.int .u64 v3.2))) (E_p (by kernel_rfl)) rfl rfl ?_
      refine G_op [0] (v := (bb ((decide (v3.2 ≤ 9223372036854775807))))) (E_p (by kernel_rfl)) rfl rfl ?_
      refine G_op [0] (v := (bb ((decide (v3.2 ≤ 9223372036854775807))))) (E_p (by kernel_rfl)) rfl rfl ?_
      exact q_some fun h => RP_sub (by exact Sub_env ⟨(Wk_and1 h10), .refl _, .refl _, .refl _, trivial⟩) h
     ·refine G_subR (Sub_lit (t := 38) (v := false) rfl h10) ?_
      refine G_off rfl rfl ?_
      refine G_off rfl rfl ?_
      refine G_op [0] (v := (bb false)) (E_p (by kernel_rfl)) rfl rfl ?_
      exact q_some fun h => RP_sub (by exact Sub_env ⟨(Wk_and0 h10), .refl _, .refl _, .refl _, trivial⟩) h
  ·refine q_two ((v3.1 == 0) && ((decide (p_a < 0)) != (decide (p_b < 0)))) (fun h7 => ?_) (fun h7 => ?_)
   ·refine G_subR (Sub_lit (t := 28) (v := true) rfl h7) ?_
    refine G_op [0] (v := (.val (.int .u64 v3.2))) (E_p (by kernel_rfl)) rfl rfl ?_
    refine G_op [0] (v := (bb ((decide (v3.2 ≤ 9223372036854775808))))) (E_p (by kernel_rfl)) rfl rfl ?_
    refine G_op [0] (v := (bb ((decide (v3.2 ≤ 9223372036854775808))))) (E_p (by kernel_rfl)) rfl rfl ?_
    exact q_some fun h => RP_sub (by exact Sub_env ⟨(Wk_and1 h7), .refl _, .refl _, .refl _, .refl _, trivial⟩) h
   ·refine G_subR (Sub_lit (t := 28) (v := false) rfl h7) ?_
    refine G_off rfl rfl ?_
    refine G_off rfl rfl ?_
    refine G_op [0] (v := (bb false)) (E_p (by kernel_rfl)) rfl rfl ?_
    exact q_some fun h => RP_sub (by exact Sub_env ⟨(Wk_and0 h7), .refl _, .refl _, .refl _, .refl _, trivial⟩) h
 ·refine q_two (v3.1 == 0) (fun h4 => ?_) (fun h4 => ?_)
  ·refine G_subR (Sub_lit (t := 25) (v := true) rfl h4) ?_
   refine G_op [0] (v := (bb (((decide (p_a < 0)) != (decide (p_b < 0)))))) (E_p (by kernel_rfl)) rfl rfl ?_
   refine G_op [0] (v := (bb (((decide (p_a < 0)) != (decide (p_b < 0)))))) (E_p (by kernel_rfl)) rfl rfl ?_
   exact q_some fun h => RP_sub (by exact Sub_env ⟨(Wk_and1 h4), .refl _, .refl _, .refl _, .refl _, trivial⟩) h
  ·refine G_subR (Sub_lit (t := 25) (v := false) rfl h4) ?_
   refine G_off rfl rfl ?_
   refine G_op [0] (v := (bb false)) (E_p (by kernel_rfl)) rfl rfl ?_
   exact q_some fun h => RP_sub (by exact Sub_env ⟨(Wk_and0 h4), .refl _, .refl _, .refl _, .refl _, trivial⟩) h
theorem s73 (x0 : Int) (x1 : Int) (ds : List DV) (hd : List.map z1 ds = List.map z1 [.int .i64 x0, .int .i64 x1]) : sp73 ds = (g_num_Mul x0 x1).map fun r => .tup [.int .i64 r.1, .int .i64 r.2] :=
 specT_at (ea := fun (a : Int × Int) => [.int .i64 a.1, .int .i64 a.2]) (eb := fun (r : (Int × Int)) => .tup [.int .i64 r.1, .int .i64 r.2]) (g := fun (a : Int × Int) => g_num_Mul a.1 a.2) inj73 (x0, x1) hd

def k65_0 : ACode := (.region (⟨(some 5), (.p (.mv (.t 0))), none⟩ :: ⟨(some 6), (.p (.mv (.t 1))), none⟩ :: ⟨(some 7), (.p (.mnx true (.t 5) [(.t 6)])), none⟩ :: ⟨(some 4), (.p (.mv (.t 7))), none⟩ :: []))
def k65_1 : ACode := (.seq k65_0 .ret)
def cd65 : ACode := (.seq (.region (⟨(some 4), (.p (.mv (.c (.int .i64 0)))), none⟩ :: [])) k65_1)
def rs65 : List ARes := [(.tmp 4)]
def af65 : AFn := ⟨cd65, rs65, 8⟩
theorem c65 : compF Try.prog 65 = some af65 := by kernel_rfl
noncomputable def g_num_Max (p_a : Int) (p_b : Int) : Option Int := (some (if p_b > p_a then p_b else p_a))
noncomputable def sp65 : List DV → Option DV := specT (fun (a : Int × Int) => [.int .i64 a.1, .int .i64 a.2]) (fun (r : Int) => .int .i64 r) (fun (a : Int × Int) => g_num_Max a.1 a.2)
theorem inj65 : ∀ (a b : Int × Int), List.map z1 ((fun (a : Int × Int) => [.int .i64 a.1, .int .i64 a.2]) a) = List.map z1 ((fun (a : Int × Int) => [.int .i64 a.1, .int .i64 a.2]) b) → a = b := by
 rintro ⟨a0, a1⟩ ⟨b0, b1⟩ h
 simp only [List.map_cons, List.map_nil, List.cons.injEq, and_true] at h
 obtain ⟨h0, h1⟩ := h
 exact (pair_eq (DV.int.inj h0).2 (DV.int.inj h1).2)
set_option maxHeartbeats 1000000 in
theorem w65 {C : FuncId → Con} (hC : ConOk Try.prog C) : ValOk Try.prog 65 sp65 := by
 refine valT_of hC c65 _ _ _ inj65 ?_
 rintro ⟨p_a, p_b⟩
 show Imq (g_num_Max p_a p_b) (fun _ => True) fun r => WP Try.prog C (fun _ => False) cd65 (retQ fun s => outV s rs65 = some (.int .i64 r)) ⟨⟨8, [(0, (ii p_a)), (1, (ii p_b))]⟩, mkH []⟩
 unfold g_num_Max
 refine G_seq ?_
 refine G_region ?_
 refine G_op [0] (v := (ii 0)) (E_p (by kernel_rfl)) rfl rfl ?_
 refine G_nil ?_
 refine G_then ?_
 refine G_seq ?_
 refine G_region ?_
 refine G_op [0] (v := (ii p_a)) (E_p (by kernel_rfl)) rfl rfl ?_
 refine G_op [0] (v := (ii p_b)) (E_p (by kernel_rfl)) rfl rfl ?_
 refine G_op [0] (v := (ii ((if p_b > p_a then p_b else p_a)))) (E_p (by kernel_rfl)) rfl rfl ?_
 refine G_op [0] (v := (ii ((if p_b > p_a then p_b else p_a)))) (E_p (by kernel_rfl)) rfl rfl ?_
 refine G_nil ?_
 refine G_then ?_
 refine G_ret ?_
 refine G_retR ?_
 refine q_some fun hA => ?_
 show outV _ _ = some _
 kernel_rfl
theorem s65 (x0 : Int) (x1 : Int) (ds : List DV) (hd : List.map z1 ds = List.map z1 [.int .i64 x0, .int .i64 x1]) : sp65 ds = (g_num_Max x0 x1).map fun r => .int .i64 r :=
 specT_at (ea := fun (a : Int × Int) => [.int .i64 a.1, .int .i64 a.2]) (eb := fun (r : Int) => .int .i64 r) (g := fun (a : Int × Int) => g_num_Max a.1 a.2) inj65 (x0, x1) hd
end Go.AI
