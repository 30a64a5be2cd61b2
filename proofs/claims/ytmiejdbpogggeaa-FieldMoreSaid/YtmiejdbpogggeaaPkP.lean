import Derived.Test.YtmiejdbpogggeaaPkO
import Derived.Deep.AppendLies
import Derived.Test.YtmiejdbpogggeaaPkM
section
/- Layer 11 (field): a row of items copied by append; what the law's own block leaves. -/
set_option linter.unusedVariables false
set_option linter.unusedSimpArgs false
set_option maxRecDepth 100000
namespace Go.Proofs.Ytmiejdbpogggeaa
open Go.RowKit

/-- append([]Node(nil), l...): a row of its own. -/
theorem wpList_copy {w : World} {ops : Array Oper} {rest : List Oper} {o : Oper} {a : Act} {Q : Exit → Act → World → Prop} (hgd : o.guard = none) (s x : Operand)
    (ho : o.op = .call { callee := .builtin .append, args := #[s, x], argTypes := #[23, 23] }) (hs : a.eval s = .slice none 0 0) {g n cap : Nat} {l : List NodeL} {kcs : List Value} (hx : a.eval x = .slice (some ⟨g, 0, none⟩) n cap)
    (hn : n = l.length) (hkl : kcs.length = n * 5) (hnews : ∀ j u, kcs[j]? = some u → w.cell? ((⟨g, 0, none⟩ : Addr).add j) = some u) (hpos : 0 < n) (hlen : n ≤ 100) (L B : Nat) (hk : NodesOk w (fun b => L ≤ b ∧ b < B) l kcs) (hB : B ≤ w.heap.size) (H : Nat) (hH : w.heap.size = H)
    (h : ∀ cap' w', n ≤ cap' → KidRow w' L B H l → Below w.heap.size w w' → H < w'.heap.size → wpList Try.prog ops Q rest (a.put o.dst (.slice (some ⟨H, 0, none⟩) n cap')) w') : wpList Try.prog ops Q (o :: rest) a w := by
  obtain ⟨j0, hj0, hy0, hy1, hy2⟩ := info_parts info_nodeN
  subst hn hH
  refine wpList_append_lies w hgd s x _ ho w.heap.size 25 j0 _ 5 80 Try.underlying23 hj0 hy0 hy1 hy2 rfl (by decide) (.slice none 0 0) 0 [] hs (World.ownsRow_nil _ _ _ _) ⟨g, 0, none⟩ l.length cap kcs hx hkl hnews (NodesOk.one' hk) hpos (by simp [maxLen]; omega) (by omega) (Nat.le_refl _) _ rfl ?_
  intro g' cap' w' hown hgr hat hlt
  have hg' : g' = w.heap.size := by
    rcases hat with h | h
    · cases h
    · exact h
  subst hg'
  rw [Nat.zero_add] at hown ⊢
  rw [List.nil_append] at hown
  have hb : Below w.heap.size w w' := (Below.refl w.heap.size w).grown hgr (Nat.le_refl _) (fun k hk => by cases hk)
  have hcap : l.length ≤ cap' := by
    rcases hown.2 with ⟨h, _⟩ | ⟨g'', cap'', cur, hv, _, _, h1, _⟩
    · cases h
    · injection hv with e1 e2 e3
      rw [e3]; exact h1
  have hrow : KidRow w' L w.heap.size w.heap.size l := KidRow.of_own hown rfl (hk.keepB (fun b h => ⟨h.1, Nat.lt_of_lt_of_le h.2 hB⟩) (fun b h => hb.block b (Nat.lt_of_lt_of_le h.2 hB)))
  obtain ⟨h0, cur, hg, h1, h2⟩ := hrow
  refine h cap' w' hcap ⟨hB, cur, hg, h1, ?_⟩ hb hlt
  have e : cur.toList.take (l.length * 5) = kcs := by
    rcases hown.2 with ⟨h, _⟩ | ⟨g'', cap'', cur', hv, hb', hg'', h3, h4, h5, h6⟩
    · cases h
    · injection hv with e1 e2 e3
      injection e1 with e1
      injection e1 with e1
      subst e1
      rw [hg] at hg''
      injection hg'' with hg''
      injection hg'' with hg''
      subst hg''
      exact h6
  rw [e]
  exact hk.keepB (fun b h => h) (fun b h => hb.block b (Nat.lt_of_lt_of_le h.2 hB))

/-- What the law's own block leaves. -/
def BlockPost (c : CalL) (w : World) (e : Ending) (w' : World) : Prop := ∃ gw g cap B, e = .returned (.tuple #[.agg #[.string ⟨b_calendar.toArray⟩, .int .i64 100, .slice (some ⟨gw, 0, none⟩) 1 1, .bool true, .slice (some ⟨g, 0, none⟩) (kidsC c).length cap], .bool true]) ∧
  (kidsC c).length ≤ cap ∧ w.heap.size ≤ B ∧ ReadsM w' (fun b => 0 ≤ b ∧ b < B) 4 (some ⟨gw, 0, none⟩) 1 (wS c.name).cells ∧ KidRow w' 0 B g (numK (kidsC c)) ∧ Below w.heap.size w w'
/-- The same, and what the items lead to was made by the call. -/
def BlockPost2 (c : CalL) (w : World) (e : Ending) (w' : World) : Prop := ∃ gw g cap B, e = .returned (.tuple #[.agg #[.string ⟨b_calendar.toArray⟩, .int .i64 100, .slice (some ⟨gw, 0, none⟩) 1 1, .bool true, .slice (some ⟨g, 0, none⟩) (kidsC c).length cap], .bool true]) ∧
  (kidsC c).length ≤ cap ∧ w.heap.size ≤ B ∧ ReadsM w' (fun b => w.heap.size ≤ b ∧ b < B) 4 (some ⟨gw, 0, none⟩) 1 (wS c.name).cells ∧ KidRow w' w.heap.size B g (numK (kidsC c)) ∧ Below w.heap.size w w'
theorem KidRow.down {W : World} {L L' B g : Nat} {l : List NodeL} (h : KidRow W L B g l) (hl : L' ≤ L) : KidRow W L' B g l := by
  obtain ⟨h0, cur, hg, h1, h2⟩ := h
  exact ⟨h0, cur, hg, h1, h2.keepB (fun b h => ⟨by omega, h.2⟩) (fun _ _ => rfl)⟩
theorem BlockPost2.low {c : CalL} {w w' : World} {e : Ending} (h : BlockPost2 c w e w') : BlockPost c w e w' := by
  obtain ⟨gw, g, cap, B, h1, h2, h3, h4, h5, h6⟩ := h
  exact ⟨gw, g, cap, B, h1, h2, h3, h4.keep (fun b h => ⟨Nat.zero_le _, h.2⟩) (fun _ _ => rfl), h5.down (Nat.zero_le _), h6⟩
/-- What Node leaves, as the law's walk wants it. -/
theorem node_parts {c : CalL} {w w' : World} {e : Ending} (h : NodePost c w e w') : ∃ gw g cap kcs, e = .returned (.tuple #[.agg #[.string ⟨b_calendar.toArray⟩, .int .i64 0, .slice (some ⟨gw, 0, none⟩) 1 1, .bool true, .slice (some ⟨g, 0, none⟩) (kidsC c).length cap], .int .i64 0]) ∧
    ReadsM w' (fun b => w.heap.size ≤ b ∧ b < w'.heap.size) 4 (some ⟨gw, 0, none⟩) 1 (wS c.name).cells ∧ kcs.length = (kidsC c).length * 5 ∧ (∀ j u, kcs[j]? = some u → w'.cell? ((⟨g, 0, none⟩ : Addr).add j) = some u) ∧ NodesOk w' (fun b => w.heap.size ≤ b ∧ b < w'.heap.size) (kidsC c) kcs ∧ g < w'.heap.size ∧ Below w.heap.size w w' := by
  obtain ⟨gw, g, cap, he, hgw, hne, hblk, ⟨kcs, h1, h2⟩, hb⟩ := h
  have h3 := kids_three c
  obtain ⟨A, cp, hv, hnil, hr⟩ := own_reads h1
  injection hv with e1 e2 e3
  subst e1 e3
  obtain ⟨ad, e1, hlt, hc⟩ := hr.2 (by omega)
  injection e1 with e1
  subst e1
  refine ⟨gw, g, cap, kcs, he, ⟨rfl, fun _ => ⟨_, rfl, ⟨hgw, (Array.getElem?_eq_some_iff.1 hblk).1⟩, fun j u hu => ?_⟩⟩, hr.1, hc, NodesOk.keep (fun b h => ⟨h.1, h.2.1⟩) (fun _ _ => rfl) _ _ h2, hlt, hb⟩
  rw [add_blk0, Joins.cell_of_block hblk j]
  simpa [WordL.cells, wS] using hu
/-- The item that Read is given. -/
theorem KidRow.node {W : World} {L B g gw N cap : Nat} {l : List NodeL} {bc nm : Bytes} (p : Int) (h : KidRow W L B g l) (hr : ReadsM W (fun b => L ≤ b ∧ b < B) 4 (some ⟨gw, 0, none⟩) 1 (wS nm).cells) (hN : N = l.length) :
    NodeOk W (· < W.heap.size) (.mk bc p [wS nm] true l) [.string ⟨bc.toArray⟩, .int .i64 p, .slice (some ⟨gw, 0, none⟩) 1 1, .bool true, .slice (some ⟨g, 0, none⟩) N cap] := by
  subst hN
  have hl := h.lt
  have h0 := h.1
  obtain ⟨kcs, h1, h2, h3, _⟩ := h.reads
  simp only [NodeOk]
  exact ⟨some ⟨gw, 0, none⟩, 1, some ⟨g, 0, none⟩, cap, kcs, rfl, (fun h => by cases h), (fun h => by cases h), by simpa using hr.keep (M' := (· < W.heap.size)) (fun b h => by show b < W.heap.size; have : b < B := h.2; omega) (fun _ _ => rfl), ⟨h1, fun _ => ⟨_, rfl, hl, h3⟩⟩, NodesOk.keep (fun b h => by show b < W.heap.size; have : b < B := h.2; omega) (fun _ _ => rfl) _ _ h2⟩

end Go.Proofs.Ytmiejdbpogggeaa
end

section
/- Layer 11 (field): the walk of the law's own block. -/
set_option linter.unusedVariables false
set_option linter.unusedSimpArgs false
set_option maxRecDepth 100000
namespace Go.Proofs.Ytmiejdbpogggeaa
open Go.RowKit

theorem wrap_small (k : Nat) (h : k ≤ 1000000) : IntKind.i64.wrap ((k : Int) + 1) = (k : Int) + 1 := by rw [IntKind.wrap_i64]; omega
/-- What is known while the places are put in. -/
def BlI (K : List NodeL) (nm bc : Bytes) (w : World) (N bn gw ga cap k : Nat) (wr : World) : Prop :=
  Below w.heap.size w wr ∧ NodeBlk wr (w.heap.size + 1) [] 0 (.slice none 0 0) false (.slice none 0 0) ∧ NodeBlk wr bn bc 100 (.slice (some ⟨gw, 0, none⟩) 1 1) true (.slice (some ⟨ga, 0, none⟩) N cap) ∧
    KidRow wr (w.heap.size + 2) bn ga (stL k K) ∧ ReadsM wr (fun b => w.heap.size + 2 ≤ b ∧ b < bn) 4 (some ⟨gw, 0, none⟩) 1 (wS nm).cells
theorem blk_two (w w1 w2 : World) (o : Obj) (h1 : w1 = (w.alloc o).alloc (.cells #[.string ⟨#[]⟩, .int .i64 0, .slice none 0 0, .bool false, .slice none 0 0] 25)) (hb : Below w1.heap.size w1 w2) :
    Below w.heap.size w w2 ∧ NodeBlk w2 (w.heap.size + 1) [] 0 (.slice none 0 0) false (.slice none 0 0) ∧ w.heap.size + 2 ≤ w2.heap.size := by
  have hs : w1.heap.size = w.heap.size + 2 := by rw [h1]; simp
  have hs2 := hb.size
  have hba : Below w.heap.size w w1 := by
    rw [h1]
    exact (below_alloc1 (Below.refl _ _) o).alloc (by simp) _
  refine ⟨hba.trans (hb.mono (by omega)), ?_, by omega⟩
  refine NodeBlk.keep (w := w1) ?_ hb
  rw [h1]
  have := heap_alloc_new (w.alloc o) (.cells #[.string ⟨#[]⟩, .int .i64 0, .slice none 0 0, .bool false, .slice none 0 0] 25)
  simpa [NodeBlk] using this
theorem set5_far (W : World) (g : Nat) (q : Addr) (h : g ≠ q.block) (v0 v1 v2 v3 v4 : Value) : (((((W.setCell ⟨g, 0, none⟩ v0).setCell ⟨g, 1, none⟩ v1).setCell ⟨g, 2, none⟩ v2).setCell ⟨g, 3, none⟩ v3).setCell ⟨g, 4, none⟩ v4).cell? q = W.cell? q := by
  rw [World.cell?_setCell_far _ _ _ _ h, World.cell?_setCell_far _ _ _ _ h, World.cell?_setCell_far _ _ _ _ h, World.cell?_setCell_far _ _ _ _ h, World.cell?_setCell_far _ _ _ _ h]
set_option maxHeartbeats 8000000 in
theorem field_block_ok2 (c : CalL) (hok : okC c = true) (hl : c.name.length ≤ maxLen) (w : World) : Calls Try.prog 21 #[calV c] w (BlockPost2 c w) := by
  have HNK := Lib.hid (fun W => (field_Node_ok c hok hl W).mono (fun e w' h => node_parts h))
  have h3 := kids_three c
  have h6 := kids_len c
  unfold BlockPost2
  generalize kidsC c = K at *
  generalize hQ : (fun (e : Ending) (w' : World) => ∃ gw g cap B, _) = Q
  have HQ := Lib.hid hQ
  obtain ⟨N, hN⟩ : ∃ N, K.length = N := ⟨_, rfl⟩
  rw [hN] at h3 h6
  have n3 : decide ((N : Int) < 3) = false := decide_eq_false (by omega)
  have n6 : decide ((6 : Int) < N) = false := decide_eq_false (by omega)
  clear hok hl hQ
  obtain ⟨nm, kind, day, month, shift, shape, p0, p1, p2, cycle, extra, first, last, policy⟩ := c
  dsimp only [calV] at HNK HQ
  dsimp only [calV]
  go_enter Try.func21, Try.ntmps21
  go_wp2_with fail
  refine (HNK.out _).mono ?_
  rintro e w2 ⟨gw, g, cap, kcs, rfl, hrd, hkl, hkc, hkn, hgl, hb2⟩
  obtain ⟨hb, hz, hs⟩ := blk_two w _ w2 _ rfl hb2
  have HB := Lib.hid hb
  have HZ := Lib.hid hz
  have hba : Below w2.heap.size w2 (w2.alloc (.cells #[.string ⟨b_calendar.toArray⟩, .int .i64 100, .slice (some ⟨gw, 0, none⟩) 1 1, .bool true, .slice (some ⟨g, 0, none⟩) K.length cap] 25)) := (Below.refl _ _).alloc (Nat.le_refl _) _
  have t1 := hkn.keepB (M' := fun b => w.heap.size + 2 ≤ b ∧ b < w2.heap.size) (fun b h => ⟨by have := h.1; simp at this; omega, h.2⟩) (fun b h => hba.block b h.2)
  have t2 : ∀ j u, kcs[j]? = some u → (w2.alloc (.cells #[.string ⟨b_calendar.toArray⟩, .int .i64 100, .slice (some ⟨gw, 0, none⟩) 1 1, .bool true, .slice (some ⟨g, 0, none⟩) K.length cap] 25)).cell? ((⟨g, 0, none⟩ : Addr).add j) = some u := fun j u hu => (hba.cell (by rw [block_of_add]; exact hgl)).trans (hkc j u hu)
  have t3 : ReadsM (w2.alloc (.cells #[.string ⟨b_calendar.toArray⟩, .int .i64 100, .slice (some ⟨gw, 0, none⟩) 1 1, .bool true, .slice (some ⟨g, 0, none⟩) K.length cap] 25)) (fun b => w.heap.size + 2 ≤ b ∧ b < w2.heap.size) 4 (some ⟨gw, 0, none⟩) 1 (wS nm).cells := hrd.keep (fun b h => ⟨by have := h.1; simp at this; omega, h.2⟩) (fun q hq => hba.cell hq.2)
  have t4 : Below w.heap.size w (w2.alloc (.cells #[.string ⟨b_calendar.toArray⟩, .int .i64 100, .slice (some ⟨gw, 0, none⟩) 1 1, .bool true, .slice (some ⟨g, 0, none⟩) K.length cap] 25)) := below_alloc1 hb _
  have t5 : NodeBlk (w2.alloc (.cells #[.string ⟨b_calendar.toArray⟩, .int .i64 100, .slice (some ⟨gw, 0, none⟩) 1 1, .bool true, .slice (some ⟨g, 0, none⟩) K.length cap] 25)) (w.heap.size + 1) [] 0 (.slice none 0 0) false (.slice none 0 0) := hz.keep hba
  have t6 : NodeBlk (w2.alloc (.cells #[.string ⟨b_calendar.toArray⟩, .int .i64 100, .slice (some ⟨gw, 0, none⟩) 1 1, .bool true, .slice (some ⟨g, 0, none⟩) K.length cap] 25)) w2.heap.size b_calendar 100 (.slice (some ⟨gw, 0, none⟩) 1 1) true (.slice (some ⟨g, 0, none⟩) K.length cap) := heap_alloc_new w2 _
  have t7 : (w2.alloc (.cells #[.string ⟨b_calendar.toArray⟩, .int .i64 100, .slice (some ⟨gw, 0, none⟩) 1 1, .bool true, .slice (some ⟨g, 0, none⟩) K.length cap] 25)).heap.size = w2.heap.size + 1 := by simp
  have T := Lib.hid (And.intro hkl (And.intro t1 (And.intro t2 (And.intro t3 (And.intro t4 (And.intro t5 t6))))))
  have T7 := Lib.hid t7
  clear hb hz hs hba hrd hkl hkc hkn hgl hb2 t1 t2 t3 t4 t5 t6 t7
  have hb1 : b_calendar = [99, 97, 108, 101, 110, 100, 97, 114] := rfl
  have HB1 := Lib.hid hb1
  rw [hN] at HNK HQ T T7 ⊢
  generalize b_calendar = bc at *
  have HN := Lib.hid hN
  clear hb1 hN
  go_wp2_with (first | (at_builtin; go_loud (refine wpList_copy rfl _ _ rfl rfl (l := K) rfl HN.out.symm T.out.1 T.out.2.2.1 (by omega) (by omega) (w.heap.size + 2) w2.heap.size T.out.2.1 (by rw [T7.out]; exact Nat.le_succ _) (w2.heap.size + 1) T7.out ?_); intro cap' wa hcap hrow hba hlt; go_loud (have u5 := T.out.2.2.2.2.2.1.keep hba); go_loud (have u6 := T.out.2.2.2.2.2.2.keep hba); go_loud (have u4 := T.out.2.2.2.2.1.trans (hba.mono T.out.2.2.2.2.1.size)); go_loud (have u3 := T.out.2.2.2.1.keep (fun _ h => h) (fun q hq => hba.cell (by rw [T7.out]; exact Nat.lt_succ_of_lt hq.2))); go_loud (have U := Lib.hid (And.intro u4 (And.intro u5 (And.intro u6 (And.intro hrow u3))))); go_loud (have q0 := Joins.cell_of_block u6 0); have q1 := Joins.cell_of_block u6 1; have q2 := Joins.cell_of_block u6 2; have q3 := Joins.cell_of_block u6 3; have q4 := Joins.cell_of_block u6 4; have f4 := Joins.unfrozen_of_block u6 4; clear u3 u4 u5 u6 hrow hba) | fail)
  have hz2 : w.heap.size + 1 < w2.heap.size := (HZ.out).lt
  obtain ⟨bn, hbn⟩ : ∃ bn, w2.heap.size = bn := ⟨_, rfl⟩
  rw [hbn] at U hz2 hlt q0 q1 q2 q3 q4 f4 ⊢
  clear HB HZ T T7 hbn
  have H0 : Hid (BlI K nm bc w N bn gw (bn + 1) cap' 0 (wa.setCell ⟨bn, 4, none⟩ (.slice (some ⟨bn + 1, 0, none⟩) N cap'))) := Lib.hid (by
    obtain ⟨u1, u2, u3, u4, u5⟩ := U.out
    refine ⟨u1.setCell (by show w.heap.size ≤ bn; omega) _, u2.other (by show bn ≠ _; omega) _, u3.skids _, ?_, u5.keep (fun _ h => h) (fun q hq => World.cell?_setCell_far _ _ _ _ (by show bn ≠ q.block; have : q.block < bn := hq.2; omega))⟩
    rw [stL_zero]
    exact u4.other (.inr (Nat.le_refl _)) (by show bn ≠ bn + 1; omega) _)
  clear U q0 q1 q2 q3 q4 f4
  go_loopw [35] (fun i wr => ∃ k : Nat, k ≤ N ∧ i = .int .i64 k ∧ BlI K nm bc w N bn gw (bn + 1) cap' k wr) (fun i _ => N - (intOf i).toNat)
  case atStart => exact ⟨0, Nat.zero_le _, rfl, H0.out⟩
  case round =>
    clear H0
    obtain ⟨k, hkN, rfl, hb, hz, hn, hrow, hrw⟩ := hrel
    have HI := Lib.hid (And.intro hb (And.intro hz (And.intro hn (And.intro hrow hrw))))
    have c4 := Joins.cell_of_block hn 4
    by_cases hlt : k < N
    · obtain ⟨kk, hkk⟩ : ∃ kk, K[k]? = some kk := ⟨_, List.getElem?_eq_getElem (by rw [HN.out]; exact hlt)⟩
      have HKK := Lib.hid hkk
      obtain ⟨row, hr1, hr2⟩ := hrow.cell k kk (by rw [stL_at]; exact hkk)
      have lk : (k : Int) < N := by omega
      have lk0 : (0 : Int) ≤ k := by omega
      have w1f := wrap_small k (by omega)
      have f1 := hrow.unfrozen (k * 5 + 1)
      obtain ⟨u, hu⟩ : ∃ u, row[1]? = some u := ⟨_, List.getElem?_eq_getElem (by rw [hr1.len]; decide)⟩
      have cu := (hr2 1 (by decide)).trans hu
      clear hb hz hn hrow hrw hr1 hr2 hu hkk
      go_wp2_with fail
      obtain ⟨hb, hz, hn, hrow, hrw⟩ := HI.out
      refine ⟨⟨k + 1, by omega, by go_num, hb.setCell (by show w.heap.size ≤ bn + 1; omega) _, hz.other (by show bn + 1 ≠ _; omega) _, hn.other (by show bn + 1 ≠ bn; omega) _, ?_, hrw.keep (fun _ h => h) (fun q hq => World.cell?_setCell_far _ _ _ _ (by show bn + 1 ≠ q.block; have : q.block < bn := hq.2; omega))⟩, by simp [intOf]; omega⟩
      rw [stL_succ K k kk HKK.out]
      exact hrow.set k kk _ (by rw [stL_at]; exact HKK.out) (by decide) (fun _ _ h => h.set1 _)
    · have lk : ¬ (k : Int) < N := by omega
      have q0 := Joins.cell_of_block hn 0
      have q1 := Joins.cell_of_block hn 1
      have q2 := Joins.cell_of_block hn 2
      have q3 := Joins.cell_of_block hn 3
      have z0 := Joins.cell_of_block hz 0
      have z1 := Joins.cell_of_block hz 1
      have z2 := Joins.cell_of_block hz 2
      have z3 := Joins.cell_of_block hz 3
      have z4 := Joins.cell_of_block hz 4
      have f0 := Joins.unfrozen_of_block hz 0
      have f1 := Joins.unfrozen_of_block hz 1
      have f2 := Joins.unfrozen_of_block hz 2
      have f3 := Joins.unfrozen_of_block hz 3
      have f4 := Joins.unfrozen_of_block hz 4
      clear hb hz hn hrow hrw
      go_wp2_with fail
      have hk2 : k = N := by omega
      subst hk2
      refine bodyPost_ret (v := .tuple #[.agg #[.string ⟨bc.toArray⟩, .int .i64 100, .slice (some ⟨gw, 0, none⟩) 1 1, .bool true, .slice (some ⟨bn + 1, 0, none⟩) k cap'], .bool true]) (by simp [results, Try.results21, go_sem, *]) rfl ?_
      rw [← HQ.out]
      obtain ⟨hb, hz, hn, hrow, hrw⟩ := HI.out
      rw [← HN.out, stL_all] at hrow
      refine ⟨gw, bn + 1, cap', bn, rfl, hcap, by omega, ?_, ?_, ?_⟩
      · refine ReadsM.keep (M := fun b => w.heap.size + 2 ≤ b ∧ b < bn) ?_ (fun b h => ⟨by have := h.1; omega, h.2⟩) (fun _ _ => rfl)
        exact hrw.keep (fun _ h => h) (fun q hq => set5_far _ _ q (by have : w.heap.size + 2 ≤ q.block := hq.1; omega) _ _ _ _ _)
      · have h5 := ((((hrow.other (a := ⟨w.heap.size + 1, 0, none⟩) (.inl (by show w.heap.size + 1 < _; omega)) (by show w.heap.size + 1 ≠ _; omega) (.string ⟨bc.toArray⟩)).other (a := ⟨w.heap.size + 1, 1, none⟩) (.inl (by show w.heap.size + 1 < _; omega)) (by show w.heap.size + 1 ≠ _; omega) (.int .i64 100)).other (a := ⟨w.heap.size + 1, 2, none⟩) (.inl (by show w.heap.size + 1 < _; omega)) (by show w.heap.size + 1 ≠ _; omega) (.slice (some ⟨gw, 0, none⟩) 1 1)).other (a := ⟨w.heap.size + 1, 3, none⟩) (.inl (by show w.heap.size + 1 < _; omega)) (by show w.heap.size + 1 ≠ _; omega) (.bool true)).other (a := ⟨w.heap.size + 1, 4, none⟩) (.inl (by show w.heap.size + 1 < _; omega)) (by show w.heap.size + 1 ≠ _; omega) (.slice (some ⟨bn + 1, 0, none⟩) k cap')
        exact h5.down (by omega)
      · repeat (first | exact hb | refine Below.setCell ?_ (Nat.le_succ _) _)

theorem field_block_ok (c : CalL) (hok : okC c = true) (hl : c.name.length ≤ maxLen) (w : World) : Calls Try.prog 21 #[calV c] w (BlockPost c w) :=
  (field_block_ok2 c hok hl w).mono (fun _ _ h => h.low)

end Go.Proofs.Ytmiejdbpogggeaa
end

section
/- Layer 11 (field): Read of a block that a law has laid; the law's own block of a calendar that may not be; what the walks of the laws share. -/
set_option linter.unusedVariables false
set_option linter.unusedSimpArgs false
set_option maxRecDepth 100000
namespace Go.Proofs.Ytmiejdbpogggeaa
open Go.RowKit

def calOb (c : CalL) : Obj := .cells #[.string ⟨c.name.toArray⟩, .int .i64 c.kind, .int .i64 c.day, .int .i64 c.month, .int .i64 c.shift, .int .i64 c.shape, .int .i64 c.p0, .int .i64 c.p1, .int .i64 c.p2, .int .i64 c.cycle, .int .i64 c.extra, .int .i64 c.first, .int .i64 c.last, .int .i64 c.policy] 30
theorem kid_fit {c : CalL} {k : NodeL} (hl : c.name.length ≤ maxLen) (h : KidOf c k) : fitN k ∧ cntN k ≤ 4 := by
  obtain ⟨k0, hk0, hn, hw, hb, hkk⟩ := h
  have hf := fit_node (c := c) hl
  unfold nodeC at hf
  have hfk := (fit_parts _ hf).2.2.2.2
  obtain ⟨j, hj⟩ := List.getElem?_of_mem hk0
  have h0 := fit_parts _ (fit_at _ _ _ hfk hj)
  have hp := kids_plain c k0 hk0
  obtain ⟨nm, p, ws, b, ks⟩ := k
  simp only [NodeL.name, NodeL.words, NodeL.kids, NodeL.block] at hn hw hb hkk
  subst hkk hn hw
  constructor
  · simp only [fitN]
    exact ⟨h0.1, h0.2.1, h0.2.2.1, by simp, trivial⟩
  · simp only [cntN, cntL]
    have := hp.2
    show 1 + k0.words.length + 0 ≤ 4
    omega
theorem cnt_le : ∀ l : List NodeL, (∀ k ∈ l, cntN k ≤ 4) → cntL l ≤ l.length * 4
  | [], _ => by simp [cntL]
  | k :: r, h => by
    have h1 := h k (by simp)
    have h2 := cnt_le r (fun x hx => h x (by simp [hx]))
    simp only [cntL, List.length_cons]
    omega
/-- Read of a block that is laid. -/
theorem block_call {nm : Bytes} {l : List NodeL} {p : Int} {r : CalR} (hl : nm.length ≤ maxLen) (hlen : l.length ≤ 10) (hk : ∀ k ∈ l, fitN k ∧ cntN k ≤ 4) (hr : readC (.mk b_calendar p [wS nm] true l) = r) (W : World) (cs : List Value) (h : NodeOk W (· < W.heap.size) (.mk b_calendar p [wS nm] true l) cs) :
    Calls Try.prog 13 #[.agg cs.toArray] W fun e w' => e = .returned (.tuple #[calV r.cal, .int .i64 r.at_, .int .i64 r.err]) ∧ Below W.heap.size W w' := by
  have hc := cnt_le l (fun k hk' => (hk k hk').2)
  have hf : fitNs [.mk b_calendar p [wS nm] true l] := by
    simp only [fitNs, fitN]
    refine ⟨⟨by decide, by simp [maxLen], fun t ht => ?_, by unfold maxLen; omega, fitNs_ofK _ fun k hk' => (hk k hk').1⟩, trivial⟩
    simp only [List.mem_cons, List.not_mem_nil, or_false] at ht
    rw [ht]; exact hl
  have := field_Read _ cs W W.heap.size (Nat.le_refl _) h (by simp only [cntL, cntN, List.length_cons, List.length_nil]; omega) hf
  unfold ReadPost at this
  rw [hr] at this
  exact this

set_option maxHeartbeats 4000000 in
theorem field_block_no (c : CalL) (hok : okC c = false) (hl : c.name.length ≤ maxLen) (w : World) : Calls Try.prog 21 #[calV c] w fun e w' =>
    e = .returned (.tuple #[.agg #[.string ⟨#[]⟩, .int .i64 0, .slice none 0 0, .bool false, .slice none 0 0], .bool false]) ∧ Below w.heap.size w w' := by
  have HNO := Lib.hid (fun W => field_Node_no c hok hl W)
  clear hok hl
  obtain ⟨nm, kind, day, month, shift, shape, p0, p1, p2, cycle, extra, first, last, policy⟩ := c
  dsimp only [calV] at HNO
  dsimp only [calV]
  go_enter Try.func21, Try.ntmps21
  go_wp2_with fail
  refine (HNO.out _).mono ?_
  rintro e w2 ⟨rfl, hb2⟩
  obtain ⟨hb, hz, hs⟩ := blk_two w _ w2 _ rfl hb2
  have HB := Lib.hid hb
  have q0 := Joins.unfrozen_of_block hz 0
  have q1 := Joins.unfrozen_of_block hz 1
  have q2 := Joins.unfrozen_of_block hz 2
  have q3 := Joins.unfrozen_of_block hz 3
  have q4 := Joins.unfrozen_of_block hz 4
  have p0' := Joins.cell_of_block hz 0
  have p1' := Joins.cell_of_block hz 1
  have p2' := Joins.cell_of_block hz 2
  have p3' := Joins.cell_of_block hz 3
  have p4' := Joins.cell_of_block hz 4
  have hzl := hz.lt
  clear hb hz hb2
  go_wp2_with fail
  refine bodyPost_ret (v := .tuple #[.agg #[.string ⟨#[]⟩, .int .i64 0, .slice none 0 0, .bool false, .slice none 0 0], .bool false]) (by simp [results, Try.results21, go_sem, *]) rfl ?_
  refine ⟨rfl, ?_⟩
  refine below_alloc1 ?_ _
  repeat (first | exact HB.out | refine Below.setCell ?_ (Nat.le_succ _) _)

end Go.Proofs.Ytmiejdbpogggeaa
end

section
/- Layer 11 (field): what the walks of the laws share: a step that appends items; facts of small numbers. -/
set_option linter.unusedVariables false
set_option linter.unusedSimpArgs false
set_option maxRecDepth 100000
namespace Go.Proofs.Ytmiejdbpogggeaa
open Go.RowKit

theorem wf_u8f {x : Int} (h : (Lit.int .u8 x).wf = true) : 0 ≤ x ∧ x ≤ 255 := by
  simp only [Lit.wf, Bool.and_eq_true, decide_eq_true_eq] at h
  have h1 := h.1
  have h2 := h.2
  simp [IntKind.min, IntKind.max, IntKind.bits, IntKind.signed] at h1 h2
  omega
/-- A row put behind a row of the call's own, at a step of a region that draws its order: either may be empty. -/
theorem step_cat {w : World} {ops : Array Oper} {o : Oper} {a : Act} {K : Act → World → Prop} {Q : Exit → Act → World → Prop} {E : Prop} (hgd : o.guard = none) (s x : Operand)
    (ho : o.op = .call { callee := .builtin .append, args := #[s, x], argTypes := #[23, 23] })
    (base : Nat) (v : Value) (n : Nat) (xs : List Value) (hs : a.eval s = v) (hown : w.ownsRow base 25 5 v n xs)
    (A : Option Addr) (m c B : Nat) (news : List Value) (hx : a.eval x = .slice A m c) (hr : Reads w B 5 A m news) (hnil : A = none → c = 0) (h1 : ∀ u ∈ news, u.oneCell' = true)
    (hnm : n + m ≤ 100) (hbase : base ≤ w.heap.size)
    (h : ∀ v' w', w'.ownsRow base 25 5 v' (n + m) (xs ++ news) → w.grownBy w' v.ownBlock → K (a.put o.dst v') w') :
    if Region.wanted o (yielded ops a.tmps) = true then Oper.wp Try.prog o a w K Q else E := by
  obtain ⟨j0, hj0, hy0, hy1, hy2⟩ := info_parts info_nodeN
  have hw : Region.wanted o (yielded ops a.tmps) = true := by simp [Region.wanted, hgd]
  rw [if_pos hw]
  obtain ⟨v', w', hrun, h2, h3⟩ := run_append_reads (P := Try.prog) (w := w) base 23 o.type 25 j0 _ 5 80 Try.underlying23 hj0 hy0 hy1 hy2 rfl (by decide) v n xs hown A m c B news hr hnil h1 (by unfold maxLen; omega) (by omega) hbase
  unfold Oper.wp execOp
  simp only [ho, resolve, invoke, builtin, Sem.run_bind, Sem.run_pure, Result.andThen_ok, List.map_toArray, List.map_cons, List.map_nil, hs, hx, hrun]
  exact h v' w' h2 h3

theorem reads_below {w w' : World} {B size n : Nat} {A : Option Addr} {xs : List Value} (h : Reads w B size A n xs) (hb : Below B w w') : Reads w' B size A n xs :=
  ReadsM.keep (w := w) (w' := w') (M := (· < B)) (M' := (· < B)) h (fun _ h => h) (fun q hq => hb.cell hq)
theorem get_take {α : Type} {l : List α} {n j : Nat} {u : α} (h : (l.take n)[j]? = some u) : l[j]? = some u := by
  have hj := (List.getElem?_eq_some_iff.1 h).1
  rw [List.length_take] at hj
  rwa [List.getElem?_take_of_lt (by omega)] at h

end Go.Proofs.Ytmiejdbpogggeaa
end
