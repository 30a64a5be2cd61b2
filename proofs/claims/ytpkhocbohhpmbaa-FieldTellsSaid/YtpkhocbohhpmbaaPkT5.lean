/- Layer 11 (field): Node of a calendar that may not be; Node whole. Then: Layer 11 (field): the block that Node leaves, in memory; how much it is. -/
import Derived.Test.YtpkhocbohhpmbaaPkT2
import Derived.Test.YtpkhocbohhpmbaaPkT4
import Derived.Test.YtpkhocbohhpmbaaPkR13
set_option linter.unusedVariables false
set_option linter.unusedSimpArgs false
set_option maxRecDepth 100000
namespace Go.Proofs.Ytpkhocbohhpmbaa
section
open Go.RowKit
open Go.Joins renaming cell_of_block → zb, unfrozen_of_block → zu
open Go.Lib renaming hid → zh
set_option maxHeartbeats 4000000 in
theorem field_Node_no (c : CalL) (hok : okC c = false) (hl : c.name.length ≤ maxLen) (w : World) : Calls Try.prog 9 #[calV c] w fun e w' =>
    e = .returned (.tuple #[.agg #[.string ⟨#[]⟩, .int .i64 0, .slice none 0 0, .bool false, .slice none 0 0], .int .i64 1]) ∧ Below w.heap.size w w':=by
  have HCH:=zh (fun W => field_Check c hl W)
  have hec : errC c = 1:=by unfold errC;rw [hok];rfl
  rw [hec] at HCH
  clear hec hok hl
  obtain ⟨nm,kind,day,month,shift,shape,p0,p1,p2,cycle,extra,first,last,policy⟩:=c
  dsimp only [calV] at HCH
  dsimp only [calV]
  go_enter Try.func9,Try.ntmps9
  go_wp2_with fail
  refine (HCH.out _).mono ?_
  rintro e w1 ⟨rfl,hb1⟩
  have h2 : NodeBlk w1 (w.heap.size + 1) [] 0 (.slice none 0 0) false (.slice none 0 0) := by
    refine NodeBlk.keep (w:=(w.alloc (.cells #[.string ⟨nm.toArray⟩, .int .i64 kind, .int .i64 day, .int .i64 month, .int .i64 shift, .int .i64 shape, .int .i64 p0, .int .i64 p1, .int .i64 p2, .int .i64 cycle, .int .i64 extra, .int .i64 first, .int .i64 last, .int .i64 policy] 30)).alloc (.cells #[.string ⟨#[]⟩, .int .i64 0, .slice none 0 0, .bool false, .slice none 0 0] 25)) ?_ hb1
    have:=heap_alloc_new (w.alloc (.cells #[.string ⟨nm.toArray⟩, .int .i64 kind, .int .i64 day, .int .i64 month, .int .i64 shift, .int .i64 shape, .int .i64 p0, .int .i64 p1, .int .i64 p2, .int .i64 cycle, .int .i64 extra, .int .i64 first, .int .i64 last, .int .i64 policy] 30)) (.cells #[.string ⟨#[]⟩, .int .i64 0, .slice none 0 0, .bool false, .slice none 0 0] 25)
    simpa [NodeBlk] using this
  have hbw : Below w.heap.size w w1 := by
    refine Below.trans (b:=(w.alloc (.cells #[.string ⟨nm.toArray⟩, .int .i64 kind, .int .i64 day, .int .i64 month, .int .i64 shift, .int .i64 shape, .int .i64 p0, .int .i64 p1, .int .i64 p2, .int .i64 cycle, .int .i64 extra, .int .i64 first, .int .i64 last, .int .i64 policy] 30)).alloc (.cells #[.string ⟨#[]⟩, .int .i64 0, .slice none 0 0, .bool false, .slice none 0 0] 25)) ?_ (hb1.mono (by simp;omega))
    (repeat (first | exact Below.refl _ _ | assumption | refine Below.setCell ?_ (by first | (simp;done) | (simp;omega) | omega) _ | refine Below.alloc ?_ (by first | (simp;done) | (simp;omega) | omega) _ | refine Below.drew ?_ | refine below_drewN ?_ _ | refine Below.trans ?_ (Below.mono (by assumption) (by first | (simp;done) | (simp;omega) | omega))))
  have q0:=zu h2 0
  have q1:=zu h2 1
  have q2:=zu h2 2
  have q3:=zu h2 3
  have q4:=zu h2 4
  have p0':=zb h2 0
  have p1':=zb h2 1
  have p2':=zb h2 2
  have p3':=zb h2 3
  have p4':=zb h2 4
  have HB:=zh hbw
  clear hb1 h2 hbw
  go_wp2_with fail
  refine bodyPost_ret (v:=.tuple #[.agg #[.string ⟨#[]⟩, .int .i64 0, .slice none 0 0, .bool false, .slice none 0 0], .int .i64 1]) (by simp [results,Try.results9,go_sem, *]) rfl ⟨rfl,?_⟩
  have e : w.heap.size ≤ w.heap.size + 1:=by omega
  exact ((((HB.out.setCell e _).setCell e _).setCell e _).setCell e _).setCell e _
end
section
open Go.RowKit
open Go.Joins renaming cell_of_block → zb, unfrozen_of_block → zu
theorem own_reads {w : World} {base size n : Nat} {e : TypeId} {v : Value} {xs : List Value} (h : w.ownsRow base e size v n xs) : ∃ A cap,v = .slice A n cap ∧ NilOk A cap ∧ ReadsM w (· < w.heap.size) size A n xs := by
  rcases h.2 with ⟨rfl,hn⟩ | ⟨g,cap,cur,rfl,hb,hg,h1,h2,h3,h4⟩
  · subst hn
    exact ⟨none,0,rfl,fun _ => rfl,⟨h.1,fun h => absurd h (by omega)⟩⟩
  · refine ⟨some ⟨g,0,none⟩,cap,rfl,(fun h => by cases h),⟨h.1,fun _ => ⟨_,rfl,(Array.getElem?_eq_some_iff.1 hg).1,fun j u hu => ?_⟩⟩⟩
    rw [add_blk0,zb hg j]
    have hj:=(List.getElem?_eq_some_iff.1 hu).1
    rw [← h4] at hu hj
    rw [List.getElem?_take_of_lt (by rw [List.length_take] at hj;omega)] at hu
    simpa using hu
theorem node_laid {c : CalL} {w w' : World} {gw g cap : Nat} (hg : w'.heap[gw]? = some (.cells #[.bool false, .int .i64 0, .string ⟨c.name.toArray⟩, .int .i64 0] 47 (0,0)))
    (ho : OwnNodes w' w.heap.size (.slice (some ⟨g,0,none⟩) (kidsC c).length cap) (kidsC c)) :
    NodeOk w' (· < w'.heap.size) (nodeC c) [.string ⟨b_calendar.toArray⟩, .int .i64 0, .slice (some ⟨gw,0,none⟩) 1 1, .bool true, .slice (some ⟨g,0,none⟩) (kidsC c).length cap]:=by
  obtain ⟨kcs,h1,h2⟩:=ho
  obtain ⟨A,cp,hv,hnil,hr⟩:=own_reads h1
  injection hv with e1 e2 e3
  subst e1 e3
  unfold nodeC
  simp only [NodeOk]
  refine ⟨some ⟨gw,0,none⟩,1,some ⟨g,0,none⟩,cap,kcs,rfl,(fun h => by cases h),hnil,⟨rfl,fun _ => ⟨_,rfl,(Array.getElem?_eq_some_iff.1 hg).1,fun j u hu => ?_⟩⟩,hr,NodesOk.keep (fun b h => h.2.1) (fun _ _ => rfl) _ _ h2⟩
  rw [add_blk0,zb hg j]
  simpa [WordL.cells,wS] using hu
theorem kids_plain (c : CalL) : ∀ k ∈ kidsC c,k.kids = [] ∧ k.words.length ≤ 3 := fun k hk => by
  rw [mem_kids] at hk
  rcases hk with rfl | ⟨_,rfl⟩ | ⟨_,⟨_,rfl⟩ | ⟨_,rfl⟩ | ⟨_,rfl⟩ | rfl⟩ | rfl | rfl <;> refine ⟨rfl,?_⟩ <;> rw [itemL_words]
  · unfold saysC
    split <;> split <;> simp
  all_goals simp
theorem kids_len (c : CalL) : (kidsC c).length ≤ 6 := by
  unfold kidsC endI namedI extraI serveI shapeC
  split <;> split <;> (try split) <;> (try split) <;> (try split) <;> simp
theorem left_plain : ∀ (l : List NodeL) (most deep : Int),0 < deep → (∀ k ∈ l,k.kids = [] ∧ k.words.length ≤ 3) → (l.length : Int) ≤ most → leftGo most deep l = most - l.length
  | [],most,deep,_,_,_ => by simp [leftGo]
  | k :: r,most,deep,hd,hk,hm => by
    obtain ⟨h1,h2⟩:=hk k (by simp)
    simp only [List.length_cons] at hm
    push_cast at hm
    have e : leftN most deep k = most - 1 := by
      rw [leftN_eq,if_neg (by omega),h1]
      simp only [leftL]
    simp only [leftGo]
    rw [e,left_plain r (most - 1) deep hd (fun x hx => hk x (by simp [hx])) (by omega)]
    simp only [List.length_cons]
    push_cast
    omega
theorem few_node (c : CalL) : 0 ≤ leftL 60 12 [nodeC c] := by
  have hl:=kids_len c
  rw [leftL_go _ _ _ (by decide)]
  simp only [leftGo]
  rw [leftN_eq,if_neg (by show ¬ ((60 : Int) < 0 ∨ 20 < 1);omega)]
  show 0 ≤ leftL (60 - 1) (12 - 1) (kidsC c)
  rw [leftL_go _ _ _ (by decide),left_plain _ _ _ (by decide) (kids_plain c) (by omega)]
  omega
theorem strs_short : ∀ l ∈ [endsL,days,mons,pols,shifts],∀ s ∈ l,s.length ≤ 100:=by decide
theorem getD_short {l : List Bytes} (h : ∀ s ∈ l,s.length ≤ 100) (k : Nat) : (l.getD k []).length ≤ 100 := by
  rw [List.getD_eq_getElem?_getD]
  cases e : l[k]? with
  | none => simp
  | some s => exact h s (List.mem_of_getElem? e)
theorem fitNs_ofK : ∀ (l : List NodeL),(∀ n ∈ l,fitN n) → fitNs l
  | [],_ => trivial
  | n :: r,h => ⟨h n (by simp),fitNs_ofK r fun m hm => h m (by simp [hm])⟩
theorem fit_node {c : CalL} (h : c.name.length ≤ maxLen) : fitN (nodeC c) := by
  have hm : (100 : Nat) ≤ maxLen:=by decide
  have hs:=strs_short
  have g1:=fun k => getD_short (hs endsL (by simp)) k
  have g2:=fun k => getD_short (hs days (by simp)) k
  have g3:=fun k => getD_short (hs mons (by simp)) k
  have g4:=fun k => getD_short (hs pols (by simp)) k
  have g5:=fun k => getD_short (hs shifts (by simp)) k
  have hkey : ∀ s ∈ [b_end,b_named,b_periods,b_pay,b_extra,b_serve,b_compare,b_calendar],s.length ≤ 100:=by decide
  have hl:=kids_len c
  unfold nodeC
  simp only [fitN]
  refine ⟨Nat.le_trans (hkey b_calendar (by simp)) hm,by simp [maxLen],fun t ht => ?_,by omega,fitNs_ofK _ fun k hk => ?_⟩
  · simp only [List.mem_cons,List.not_mem_nil,or_false] at ht
    rw [ht];exact h
  · have hw := (kids_plain c k hk).2
    have hkk:=(kids_plain c k hk).1
    have hwl : ∀ t ∈ k.words,t.s.length ≤ 100 := fun t ht => by
      rw [mem_kids] at hk
      rcases hk with rfl | ⟨_,rfl⟩ | ⟨_,⟨_,rfl⟩ | ⟨_,rfl⟩ | ⟨_,rfl⟩ | rfl⟩ | rfl | rfl <;> rw [itemL_words] at ht
      · have : ∃ s,t = wS s ∧ s.length ≤ 100 := by
          obtain ⟨s,hs',rfl⟩:=List.mem_map.1 (by simpa using ht)
          refine ⟨s,rfl,?_⟩
          unfold saysC at hs'
          simp only [List.mem_append,List.mem_cons,List.not_mem_nil,or_false] at hs'
          rcases hs' with (rfl | h2) | h3
          · exact g1 _
          · split at h2
            · simp only [List.mem_cons,List.not_mem_nil,or_false] at h2;rw [h2];exact g2 _
            · cases h2
          · split at h3
            · simp only [List.mem_cons,List.not_mem_nil,or_false] at h3;rw [h3];exact g3 _
            · cases h3
        obtain ⟨s,rfl,h⟩:=this
        exact h
      · simp only [List.map_cons,List.map_nil,List.append_nil,List.mem_cons,List.not_mem_nil,or_false] at ht;rw [ht];exact g5 _
      · simp at ht;rcases ht with rfl | rfl | rfl <;> simp [wN]
      · simp at ht;rw [ht];simp [wN]
      · simp at ht;rw [ht];simp [wN]
      · simp at ht;rw [ht];simp [wN]
      · simp at ht;rcases ht with rfl | rfl <;> simp [wN]
      · simp only [List.map_cons,List.map_nil,List.append_nil,List.mem_cons,List.not_mem_nil,or_false] at ht;rw [ht];exact g4 _
    have hkn : k.name.length ≤ 100 := by
      rw [mem_kids] at hk
      rcases hk with rfl | ⟨_,rfl⟩ | ⟨_,⟨_,rfl⟩ | ⟨_,rfl⟩ | ⟨_,rfl⟩ | rfl⟩ | rfl | rfl <;> exact hkey _ (by simp [itemL_name])
    obtain ⟨nm,p,ws,b,ks⟩:=k
    simp only [NodeL.name,NodeL.words,NodeL.kids] at hkn hwl hw hkk
    subst hkk
    simp only [fitN]
    exact ⟨by omega,by omega,fun t ht => Nat.le_trans (hwl t ht) hm,by simp,trivial⟩
end
end Go.Proofs.Ytpkhocbohhpmbaa
