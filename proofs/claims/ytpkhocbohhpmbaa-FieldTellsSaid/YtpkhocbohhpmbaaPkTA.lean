/- Layer 11 (field), the reference: Node of a calendar that may not be; both Nodes, in one form. -/
import Derived.Test.YtpkhocbohhpmbaaPkT9
import Derived.Test.YtpkhocbohhpmbaaPkT5
set_option linter.unusedVariables false
set_option linter.unusedSimpArgs false
set_option maxRecDepth 100000
namespace Go.Proofs.Ytpkhocbohhpmbaa
open Go.RowKit
open Go.Joins renaming cell_of_block → zb, unfrozen_of_block → zu
open Go.Lib renaming hid → zh
set_option maxHeartbeats 4000000 in
theorem r11_Node_no (c : CalL) (hok : okC c = false) (hl : c.name.length ≤ maxLen) (w : World) : Calls Try.prog 10 #[calV c] w fun e w' =>
    e = .returned (.tuple #[.agg #[.string ⟨#[]⟩, .int .i64 0, .slice none 0 0, .bool false, .slice none 0 0], .int .i64 1]) ∧ Below w.heap.size w w':=by
  have HCH:=zh (fun W => r11_Check c hl W)
  have hec : errC c = 1:=by unfold errC;rw [hok];rfl
  rw [hec] at HCH
  clear hec hok hl
  obtain ⟨nm,kind,day,month,shift,shape,p0,p1,p2,cycle,extra,first,last,policy⟩:=c
  dsimp only [calV] at HCH
  dsimp only [calV]
  go_enter Try.func10,Try.ntmps10
  go_wp2_with fail
  refine (HCH.out _).mono ?_
  rintro e w1 ⟨rfl,hb1⟩
  have h2 : NodeBlk w1 (w.heap.size + 1) [] 0 (.slice none 0 0) false (.slice none 0 0) := by
    refine NodeBlk.keep (w:=(w.alloc (.cells #[.string ⟨nm.toArray⟩, .int .i64 kind, .int .i64 day, .int .i64 month, .int .i64 shift, .int .i64 shape, .int .i64 p0, .int .i64 p1, .int .i64 p2, .int .i64 cycle, .int .i64 extra, .int .i64 first, .int .i64 last, .int .i64 policy] 30)).alloc (.cells #[.string ⟨#[]⟩, .int .i64 0, .slice none 0 0, .bool false, .slice none 0 0] 25)) ?_ hb1
    have:=heap_alloc_new (w.alloc (.cells #[.string ⟨nm.toArray⟩, .int .i64 kind, .int .i64 day, .int .i64 month, .int .i64 shift, .int .i64 shape, .int .i64 p0, .int .i64 p1, .int .i64 p2, .int .i64 cycle, .int .i64 extra, .int .i64 first, .int .i64 last, .int .i64 policy] 30)) (.cells #[.string ⟨#[]⟩, .int .i64 0, .slice none 0 0, .bool false, .slice none 0 0] 25)
    simpa [NodeBlk] using this
  have hb2:=below_twoN w (.cells #[.string ⟨nm.toArray⟩, .int .i64 kind, .int .i64 day, .int .i64 month, .int .i64 shift, .int .i64 shape, .int .i64 p0, .int .i64 p1, .int .i64 p2, .int .i64 cycle, .int .i64 extra, .int .i64 first, .int .i64 last, .int .i64 policy] 30) (.cells #[.string ⟨#[]⟩, .int .i64 0, .slice none 0 0, .bool false, .slice none 0 0] 25)
  have hbw : Below w.heap.size w w1:=hb2.trans (hb1.mono hb2.size)
  have q0:=zu h2 0
  have q1:=zu h2 1
  have q2:=zu h2 2
  have q3:=zu h2 3
  have q4:=zu h2 4
  have p0':=zb h2 0
  have p1':=zb h2 1
  have p2':=zb h2 2
  have p3':=zb h2 3
  have p4':=zb h2 4
  have HB:=zh hbw
  clear hb1 h2 hbw hb2
  go_wp2_with fail
  refine bodyPost_ret (v:=.tuple #[.agg #[.string ⟨#[]⟩, .int .i64 0, .slice none 0 0, .bool false, .slice none 0 0], .int .i64 1]) (by simp [results,Try.results10,go_sem, *]) rfl ⟨rfl,?_⟩
  have e : w.heap.size ≤ w.heap.size + 1:=by omega
  exact ((((HB.out.setCell e _).setCell e _).setCell e _).setCell e _).setCell e _
/-- What a Node tells: the item of a calendar,or none,and its error. -/
def nodeB (c : CalL) : NodeL:=if okC c then nodeC c else nodeZ
def nameB (c : CalL) : Bytes:=if okC c then b_calendar else []
def NodeBoth (c : CalL) (w : World) (e : Ending) (w' : World) : Prop := ∃ (A : Option Addr) (n k : Nat) (B : Option Addr) (m d : Nat),e = .returned (.tuple #[.agg #[.string ⟨(nameB c).toArray⟩, .int .i64 0, .slice A n k, .bool (okC c), .slice B m d], .int .i64 (errC c)]) ∧
  NodeOk w' (· < w'.heap.size) (nodeB c) [.string ⟨(nameB c).toArray⟩, .int .i64 0, .slice A n k, .bool (okC c), .slice B m d] ∧ Below w.heap.size w w'
theorem node_laidN {c : CalL} {w w' : World} {gw g cap : Nat} (hg : w'.heap[gw]? = some (.cells #[.bool false, .int .i64 0, .string ⟨c.name.toArray⟩, .int .i64 0] 47 (0,0)))
    (ho : OwnNodes w' w.heap.size (.slice (some ⟨g,0,none⟩) (kidsC c).length cap) (kidsC c)) :
    NodeOk w' (· < w'.heap.size) (nodeC c) [.string ⟨b_calendar.toArray⟩, .int .i64 0, .slice (some ⟨gw,0,none⟩) 1 1, .bool true, .slice (some ⟨g,0,none⟩) (kidsC c).length cap]:=by
  obtain ⟨kcs,h1,h2⟩:=ho
  have hr : NilOk (some ⟨g,0,none⟩) cap ∧ ReadsM w' (· < w'.heap.size) 5 (some ⟨g,0,none⟩) (kidsC c).length kcs := by
    refine ⟨(fun h => by cases h),?_⟩
    rcases h1.2 with ⟨hv,_⟩ | ⟨g',cap',cur,hv,hb,hg',h1',h2',h3',h4'⟩
    · cases hv
    · injection hv with e1 e2 e3
      injection e1 with e1
      injection e1 with e1
      subst e1
      refine ⟨h1.1,fun _ => ⟨_,rfl,(Array.getElem?_eq_some_iff.1 hg').1,fun j u hu => ?_⟩⟩
      rw [add_blk0,zb hg' j]
      have hj:=(List.getElem?_eq_some_iff.1 hu).1
      rw [← h4'] at hu hj
      rw [List.getElem?_take_of_lt (by rw [List.length_take] at hj;omega)] at hu
      simpa using hu
  unfold nodeC
  simp only [NodeOk]
  refine ⟨some ⟨gw,0,none⟩,1,some ⟨g,0,none⟩,cap,kcs,rfl,(fun h => by cases h),hr.1,⟨rfl,fun _ => ⟨_,rfl,(Array.getElem?_eq_some_iff.1 hg).1,fun j u hu => ?_⟩⟩,hr.2,NodesOk.keep (fun b h => h.2.1) (fun _ _ => rfl) _ _ h2⟩
  rw [add_blk0,zb hg j]
  simpa [WordL.cells,wS] using hu
theorem both_of_post {c : CalL} (hok : okC c = true) {w w' : World} {e : Ending} (h : NodePost c w e w') : NodeBoth c w e w' := by
  obtain ⟨gw,g,cap,he,hgw,hne,hblk,hown,hb⟩:=h
  refine ⟨some ⟨gw,0,none⟩,1,1,some ⟨g,0,none⟩,(kidsC c).length,cap,?_,?_,hb⟩
  · rw [he];unfold nameB errC;rw [hok];rfl
  · unfold nameB nodeB
    rw [hok]
    exact node_laidN hblk hown
theorem both_of_none {c : CalL} (hok : okC c = false) {w w' : World} {e : Ending} (h : e = .returned (.tuple #[.agg #[.string ⟨#[]⟩, .int .i64 0, .slice none 0 0, .bool false, .slice none 0 0], .int .i64 1]) ∧ Below w.heap.size w w') : NodeBoth c w e w' := by
  refine ⟨none,0,0,none,0,0,?_,?_,h.2⟩
  · rw [h.1];unfold nameB errC;rw [hok];rfl
  · unfold nameB nodeB
    rw [hok]
    simp only [Bool.false_eq_true,if_false]
    unfold nodeZ
    simp only [NodeOk]
    exact ⟨none,0,none,0,[],rfl,fun _ => rfl,fun _ => rfl,ReadsM.nil _ _ _ _,ReadsM.nil _ _ _ _,rfl⟩
theorem field_NodeB (c : CalL) (hl : c.name.length ≤ maxLen) (w : World) : Calls Try.prog 9 #[calV c] w (NodeBoth c w) := by
  cases hok : okC c
  · exact (field_Node_no c hok hl w).mono fun e w' h => both_of_none hok h
  · exact (field_Node_ok c hok hl w).mono fun e w' h => both_of_post hok h
theorem r11_NodeB (c : CalL) (hl : c.name.length ≤ maxLen) (w : World) : Calls Try.prog 10 #[calV c] w (NodeBoth c w) := by
  cases hok : okC c
  · exact (r11_Node_no c hok hl w).mono fun e w' h => both_of_none hok h
  · exact (r11_Node_ok c hok hl w).mono fun e w' h => both_of_post hok h
theorem okC_cyc (c : CalL) (h : okC c = true) (h3 : c.shape = 3) : 0 < c.cycle := by
  unfold okC at h
  simp only [Bool.and_eq_true] at h
  have hr:=h.2
  have hw : weeksC c = true → 0 < c.cycle := fun hw => by
    unfold weeksC cycOk at hw
    rw [if_neg (by omega),if_neg (by omega),if_pos h3] at hw
    simp only [Bool.and_eq_true,Bool.or_eq_true,decide_eq_true_eq] at hw
    omega
  unfold ruledC fixedC at hr
  by_cases k3 : c.kind = 3
  · rw [if_pos k3] at hr
    have h':=of_decide_eq_true hr
    have e1 : c.shape = 1:=by rw [h'];rfl
    omega
  rw [if_neg k3] at hr
  by_cases k4 : c.kind = 4
  · rw [if_pos k4] at hr
    have h':=of_decide_eq_true hr
    have e1 : c.shape = 4:=by rw [h'];rfl
    omega
  rw [if_neg k4] at hr
  dsimp only at hr
  split at hr
  · cases hr
  · split at hr
    · simp only [Bool.and_eq_true] at hr;exact hw hr.2
    · split at hr
      · simp only [Bool.and_eq_true] at hr;exact hw hr.2
      · split at hr
        · simp only [Bool.and_eq_true,decide_eq_true_eq] at hr
          have:=hr.1.1.1.2
          omega
        · cases hr
theorem many_ok (c : CalL) : (if okC c then manyR c.shape c.cycle else 0) = periodsC c := by
  unfold periodsC
  cases hok : okC c
  · rfl
  · simp only [if_true]
    have h3:=okC_cyc c hok
    unfold manyR manyC
    by_cases e2 : c.shape = 2
    · rw [if_pos e2,if_pos e2]
    rw [if_neg e2,if_neg e2]
    by_cases e3 : c.shape = 3
    · have := h3 e3
      rw [if_pos e3,if_pos this,if_pos ⟨e3,this⟩]
    rw [if_neg e3]
    rw [if_neg (show ¬ (c.shape = 3 ∧ 0 < c.cycle) from fun e => e3 e.1)]
    by_cases e1 : c.shape = 1 ∨ c.shape = 4 ∨ c.shape = 5
    · rw [if_pos e1,if_pos (show 1 ≤ c.shape ∧ c.shape ≤ 5 by omega)]
    · rw [if_neg e1,if_neg (show ¬ (1 ≤ c.shape ∧ c.shape ≤ 5) by omega)]
end Go.Proofs.Ytpkhocbohhpmbaa
