import Derived.Test.YtjbniichcopnlaaGreatDoorFieldT
import Derived.Test.YtjbniichcopnlaaGreatDoorTreeP7
import Derived.Test.YtjbniichcopnlaaGreatDoorConfR
import Derived.Test.YtjbniichcopnlaaGreatDoorPkV33
import Derived.Test.YtjbniichcopnlaaGreatDoorTreeR2
import Derived.Test.YtjbniichcopnlaaGreatDoorPkV1
import Derived.Test.YtjbniichcopnlaaGreatDoorPkV38
import Derived.Test.YtjbniichcopnlaaGreatDoorPkV40
section
/- Layer 11, the laws: live. -/
set_option linter.unusedVariables false
set_option linter.unusedSimpArgs false
namespace Go.Proofs.YtjbniichcopnlaaGreatDoor
open Go.RowKit

def exK : List NodeL := [.mk b_end 13 [⟨false, 0, [110, 114, 102], 17⟩] false [], .mk b_serve 22 [⟨true, 2000, [], 28⟩, ⟨true, 2030, [], 33⟩] false [], .mk b_compare 39 [⟨false, 0, [115, 104, 105, 102, 116], 47⟩] false []]
def exN : NodeL := .mk b_calendar 0 [⟨false, 0, [120], 9⟩] true exK
def exT : Bytes := [99, 97, 108, 101, 110, 100, 97, 114, 32, 120, 32, 123, 32, 101, 110, 100, 32, 110, 114, 102, 59, 32, 115, 101, 114, 118, 101, 32, 50, 48, 48, 48, 32, 50, 48, 51, 48, 59, 32, 99, 111, 109, 112, 97, 114, 101, 32, 115, 104, 105, 102, 116, 59, 32, 125]
theorem ex_tree : treeL exT = ⟨[exN], 0, 0⟩ := by kernel_rfl
theorem ex_read : readC exN = ⟨⟨[120], 3, 6, 1, 1, 1, 4, 5, 4, 0, 12, 2000, 2030, 2⟩, 0, 0⟩ := by kernel_rfl
theorem ex_fit : fitNs [exN] := by
  unfold exN exK
  simp only [fitNs, fitN, and_true]
  decide
theorem ex_cnt : cntL [exN] = 9 := by kernel_rfl

end Go.Proofs.YtjbniichcopnlaaGreatDoor
end

section
/- Layer 12 (conf), the laws: what their walks share; live. -/
set_option linter.unusedVariables false
set_option linter.unusedSimpArgs false
set_option maxRecDepth 100000
namespace Go.Proofs.YtjbniichcopnlaaGreatDoor
open Go.RowKit

theorem run_neqCal (W : World) (a b : CalL) : (binOp .neq 37 (.agg a.cc.toArray) (.agg b.cc.toArray)).run Tryz.prog W = .ok (.bool (!decide (a = b))) W := by
  unfold CalL.cc
  rw [run_neq_struct, run_equalCal]; rfl

/-! ### What a text gives -/
theorem tree_right (s : Bytes) (hs : s.length ≤ 65536) (he : (treeL s).err = 0) : checkL 0 (treeL s).nodes = 0 ∧ cntL (treeL s).nodes ≤ s.length := by
  obtain ⟨h1, h2⟩ := treeL_err0 s he
  obtain ⟨_, _, hfl⟩ := tokens_law s he
  have hck : checkL 0 (treeL s).nodes = 0 := by
    rw [h2] at he ⊢
    exact parse_inv s.length _ _ _ (cutL_tokOk s) ⟨rfl, fun h => absurd rfl h, trivial⟩ trivial (by simp) he
  have a := cnt_flat (treeL s).nodes 0 hck
  rw [hfl, List.length_map] at a
  have b := cutL_len s
  exact ⟨hck, by omega⟩
theorem okfit_head (d : Nat) (nm : Bytes) (p : Int) (ws : List WordL) (b : Bool) (ks : List NodeL) (h : checkN d (.mk nm p ws b ks) = 0) : ws.all wordOk = true ∧ nameL nm = true := by
  simp only [checkN] at h
  by_cases h1 : (!ws.all wordOk || !nameL nm || decide (8 < ws.length) || (!b && decide (0 < ks.length))) = true
  · rw [if_pos h1] at h; simp at h
  · simp only [Bool.not_eq_true, Bool.or_eq_false_iff, Bool.not_eq_false'] at h1
    exact ⟨by simpa using h1.1.1.1, by simpa using h1.1.1.2⟩
theorem okfit_words : ∀ ws : List WordL, ws.all wordOk = true → ∀ t ∈ ws, t.s.length ≤ maxLen
  | ws, h, t, ht => by
    have := List.all_eq_true.1 h t ht
    obtain ⟨nu, n, s, p⟩ := t
    unfold wordOk at this
    unfold maxLen
    cases nu
    · simp only [Bool.false_eq_true, if_false, Bool.and_eq_true, decide_eq_true_eq] at this
      have := name16 s this.2
      simp only; omega
    · simp only [if_true, Bool.and_eq_true, decide_eq_true_eq] at this
      obtain ⟨⟨rfl, _⟩, _⟩ := this
      simp
mutual
theorem okfit_n : ∀ (n : NodeL) (d : Nat), checkN d n = 0 → cntN n ≤ 100000 → fitN n
  | .mk nm p ws b ks, d, h, hc => by
    obtain ⟨h1, h2⟩ := okfit_head d nm p ws b ks h
    obtain ⟨h3, h4, _, h6⟩ := check_parts d nm p ws b ks h
    simp only [cntN] at hc
    have h7 := okfit_l ks (d + 1) h6 (by omega)
    have h8 := name16 nm h2
    have h9 := cntL_len ks
    refine ⟨by unfold maxLen; omega, by unfold maxLen; omega, okfit_words ws h1, by unfold maxLen; omega, h7⟩
theorem okfit_l : ∀ (l : List NodeL) (d : Nat), checkL d l = 0 → cntL l ≤ 100000 → fitNs l
  | [], _, _, _ => trivial
  | n :: r, d, h, hc => by
    obtain ⟨h1, h2⟩ := checkL_cons d n r h
    simp only [cntL] at hc
    exact ⟨okfit_n n d h1 (by omega), okfit_l r d h2 (by omega)⟩
end
theorem text_in (s : Bytes) (hs : s.length ≤ 65536) : cntL (treeL s).nodes ≤ 100000 ∧ fitNs (treeL s).nodes := by
  by_cases he : (treeL s).err = 0
  · obtain ⟨h1, h2⟩ := tree_right s hs he
    exact ⟨by omega, okfit_l _ 0 h1 (by omega)⟩
  · obtain ⟨h1, _⟩ := tree_err s hs he
    rw [h1]
    exact ⟨by simp [cntL], trivial⟩

/-! ### What Read tells -/
theorem readGo_facts : ∀ (nodes : List NodeL) (out : List CalL), ((readGo out nodes).err ≠ 0 → (readGo out nodes).cals = []) ∧
    ((readGo out nodes).err = 0 → (readGo out nodes).pos = 0 ∧ (readGo out nodes).cals = out ++ nodes.map (fun n => (readC n).cal) ∧ (∀ n ∈ nodes, (readC n).err = 0) ∧ (out.length ≤ 32 → out.length + nodes.length ≤ 32))
  | [], out => ⟨fun h => absurd rfl h, fun _ => ⟨rfl, by simp [readGo], by simp, fun h => by simpa using h⟩⟩
  | n :: r, out => by
    by_cases h1 : out.length = 32
    · rw [readGo_long out n r h1]
      exact ⟨fun _ => rfl, fun h => by simp at h⟩
    by_cases h2 : (readC n).err = 0
    case neg =>
      rw [readGo_bad out n r h1 h2]
      exact ⟨fun _ => rfl, fun h => absurd h h2⟩
    cases h3 : (out.map CalL.name).contains (readC n).cal.name with
    | true =>
      rw [readGo_twice out n r h1 h2 h3]
      exact ⟨fun _ => rfl, fun h => by simp at h⟩
    | false =>
      rw [readGo_on out n r h1 h2 h3]
      obtain ⟨a, b⟩ := readGo_facts r (out ++ [(readC n).cal])
      refine ⟨a, fun h => ?_⟩
      obtain ⟨b1, b2, b3, b4⟩ := b h
      refine ⟨b1, by rw [b2]; simp, fun m hm => ?_, fun hl => ?_⟩
      · rcases List.mem_cons.1 hm with rfl | hm
        · exact h2
        · exact b3 m hm
      · have := b4 (by rw [List.length_append]; simp only [List.length_cons, List.length_nil]; omega)
        rw [List.length_append] at this
        simp only [List.length_cons, List.length_nil] at this ⊢
        omega
theorem conf_facts (s : Bytes) : ((confRead s).err ≠ 0 → (confRead s).cals = []) ∧
    ((confRead s).err = 0 → (confRead s).pos = 0 ∧ (treeL s).err = 0 ∧ (confRead s).cals = (treeL s).nodes.map (fun n => (readC n).cal) ∧ (∀ n ∈ (treeL s).nodes, (readC n).err = 0) ∧ (treeL s).nodes.length ≤ 32) := by
  unfold confRead
  by_cases he : (treeL s).err = 0
  · rw [if_neg (by simp [he])]
    obtain ⟨a, b⟩ := readGo_facts (treeL s).nodes []
    refine ⟨a, fun h => ?_⟩
    obtain ⟨b1, b2, b3, b4⟩ := b h
    exact ⟨b1, he, by simpa using b2, b3, by simpa using b4 (by simp)⟩
  · rw [if_pos he]
    exact ⟨fun _ => rfl, fun h => absurd h he⟩

/-! ### Calendars in memory -/
theorem ccells_length (l : List CalL) : (l.flatMap CalL.cc).length = l.length * 14 := by
  induction l with
  | nil => rfl
  | cons t l ih => simp only [List.flatMap_cons, List.length_append, ih, List.length_cons, CalL.cc, List.length_nil]; omega
theorem cflat_get (l : List CalL) (i : Nat) (t : CalL) (h : l[i]? = some t) : ∀ j, j < 14 → (l.flatMap CalL.cc)[i * 14 + j]? = t.cc[j]? := by
  induction l generalizing i with
  | nil => simp at h
  | cons a l ih =>
    intro j hj
    rw [List.flatMap_cons]
    cases i with
    | zero =>
      simp only [List.getElem?_cons_zero, Option.some.injEq] at h
      subst h
      rw [List.getElem?_append_left (by simp [CalL.cc]; omega)]
      simp
    | succ i =>
      rw [List.getElem?_append_right (by simp [CalL.cc]; omega)]
      have : (i + 1) * 14 + j - a.cc.length = i * 14 + j := by simp [CalL.cc]; omega
      rw [this]
      exact ih i (by simpa using h) j hj
/-- The fourteen cells of a calendar. -/
def Cal14 (w : World) (p : Addr) (c : CalL) : Prop :=
  w.cell? p = some (.string ⟨c.name.toArray⟩) ∧ w.cell? ⟨p.block, p.off + 1, none⟩ = some (.int .i64 c.kind) ∧ w.cell? ⟨p.block, p.off + 2, none⟩ = some (.int .i64 c.day) ∧ w.cell? ⟨p.block, p.off + 3, none⟩ = some (.int .i64 c.month) ∧
  w.cell? ⟨p.block, p.off + 4, none⟩ = some (.int .i64 c.shift) ∧ w.cell? ⟨p.block, p.off + 5, none⟩ = some (.int .i64 c.shape) ∧ w.cell? ⟨p.block, p.off + 6, none⟩ = some (.int .i64 c.p0) ∧ w.cell? ⟨p.block, p.off + 7, none⟩ = some (.int .i64 c.p1) ∧
  w.cell? ⟨p.block, p.off + 8, none⟩ = some (.int .i64 c.p2) ∧ w.cell? ⟨p.block, p.off + 9, none⟩ = some (.int .i64 c.cycle) ∧ w.cell? ⟨p.block, p.off + 10, none⟩ = some (.int .i64 c.extra) ∧ w.cell? ⟨p.block, p.off + 11, none⟩ = some (.int .i64 c.first) ∧
  w.cell? ⟨p.block, p.off + 12, none⟩ = some (.int .i64 c.last) ∧ w.cell? ⟨p.block, p.off + 13, none⟩ = some (.int .i64 c.policy)
theorem cal_at {w : World} {M : Nat → Prop} {A : Option Addr} {l : List CalL} (h : ReadsM w M 14 A l.length (l.flatMap CalL.cc)) (i : Nat) (t : CalL) (hi : l[i]? = some t) :
    ∃ ad, A = some ad ∧ M ad.block ∧ Cal14 w (ad.add (i * 14)) t := by
  have hlt : i < l.length := (List.getElem?_eq_some_iff.1 hi).1
  obtain ⟨ad, rfl, hb, hc⟩ := h.2 (by omega)
  have hg := cflat_get l i t hi
  have hs : ∀ j, j ≠ 0 → ad.add (i * 14 + j) = ⟨(ad.add (i * 14)).block, (ad.add (i * 14)).off + j, none⟩ := fun j hj => by
    rw [← add_of_add]; unfold Addr.add; rw [if_neg hj]
  exact ⟨ad, rfl, hb, hc _ _ (hg 0 (by omega)), hs 1 (by omega) ▸ hc _ _ (hg 1 (by omega)), hs 2 (by omega) ▸ hc _ _ (hg 2 (by omega)), hs 3 (by omega) ▸ hc _ _ (hg 3 (by omega)), hs 4 (by omega) ▸ hc _ _ (hg 4 (by omega)), hs 5 (by omega) ▸ hc _ _ (hg 5 (by omega)),
    hs 6 (by omega) ▸ hc _ _ (hg 6 (by omega)), hs 7 (by omega) ▸ hc _ _ (hg 7 (by omega)), hs 8 (by omega) ▸ hc _ _ (hg 8 (by omega)), hs 9 (by omega) ▸ hc _ _ (hg 9 (by omega)), hs 10 (by omega) ▸ hc _ _ (hg 10 (by omega)), hs 11 (by omega) ▸ hc _ _ (hg 11 (by omega)),
    hs 12 (by omega) ▸ hc _ _ (hg 12 (by omega)), hs 13 (by omega) ▸ hc _ _ (hg 13 (by omega))⟩
theorem own_readsC {w : World} {base : Nat} {v : Value} {l : List CalL} (h : OwnCals w base v l) : ∃ A cap, v = .slice A l.length cap ∧ ReadsM w (· < w.heap.size) 14 A l.length (l.flatMap CalL.cc) := by
  unfold OwnCals at h
  rcases h.2 with ⟨rfl, hn⟩ | ⟨g, cap, cur, rfl, hb, hg, h1, h2, h3, h4⟩
  · exact ⟨none, 0, by rw [hn], by rw [hn]; have : l = [] := List.eq_nil_of_length_eq_zero hn; rw [this]; exact ReadsM.nil _ _ _ _⟩
  · refine ⟨some ⟨g, 0, none⟩, cap, rfl, ⟨h.1, fun _ => ⟨_, rfl, (Array.getElem?_eq_some_iff.1 hg).1, fun j u hu => ?_⟩⟩⟩
    have hz : (⟨g, 0, none⟩ : Addr).add j = ⟨g, j, none⟩ := by unfold Addr.add; split <;> simp_all
    rw [hz, Joins.cell_of_block hg j]
    have hj := (List.getElem?_eq_some_iff.1 hu).1
    rw [← h4] at hu hj
    rw [List.getElem?_take_of_lt (by rw [List.length_take] at hj; omega)] at hu
    simpa using hu

def exR : ConfR := ⟨[⟨[120], 3, 6, 1, 1, 1, 4, 5, 4, 0, 12, 2000, 2030, 2⟩], 0, 0⟩
theorem ex_conf : confRead exT = exR := by
  unfold confRead
  rw [ex_tree]
  simp only [ne_eq, not_true_eq_false, if_false]
  rw [readGo_on [] exN [] (by decide) (by rw [ex_read]) (by simp), ex_read]
  rfl
theorem none_tree : treeL [35, 32, 110, 111, 110, 101, 10] = ⟨[], 0, 0⟩ := by kernel_rfl
theorem none_conf : confRead [35, 32, 110, 111, 110, 101, 10] = ⟨[], 0, 0⟩ := by
  unfold confRead
  rw [none_tree]
  simp [readGo]

set_option maxHeartbeats 4000000 in
theorem law12_live (w : World) :
    Calls Tryz.prog 6 #[] w fun e w' => e = .returned (.bool true) ∧ Below w.heap.size w w' := by
  have hP := fun W => conf_Read ⟨#[35, 32, 110, 111, 110, 101, 10]⟩ W (by decide) (text_in _ (by decide)).1 (text_in _ (by decide)).2
  rw [show (ByteArray.mk #[35, 32, 110, 111, 110, 101, 10]).data.toList = [35, 32, 110, 111, 110, 101, 10] from rfl, none_conf] at hP
  have hQ := fun W => conf_Read ⟨exT.toArray⟩ W (by decide) (text_in _ (by decide)).1 (text_in _ (by decide)).2
  rw [show (ByteArray.mk exT.toArray).data.toList = exT from rfl, ex_conf] at hQ
  unfold exT exR at hQ
  have HP := Lib.hid hP
  have HQ := Lib.hid hQ
  clear hP hQ
  go_enter Tryz.func6, Tryz.ntmps6
  go_wp2_with fail
  refine (HP.out w).mono ?_
  rintro e w1 ⟨v1, rfl, hown1, hb1⟩
  obtain ⟨A1, c1, rfl, _⟩ := own_form hown1
  have HB1 := Lib.hid hb1
  clear hown1 hb1
  dsimp only [List.length_nil]
  go_wp2_with fail
  refine (HQ.out w1).mono ?_
  rintro e w2 ⟨v2, rfl, hown2, hb2⟩
  obtain ⟨A2, c2, rfl, hr2⟩ := own_readsC hown2
  obtain ⟨ad, rfl, _, hc14⟩ := cal_at hr2 0 _ rfl
  have x0 := hc14.1
  rw [Nat.zero_mul, add_zero] at x0
  have HB2 := Lib.hid (HB1.out.trans (hb2.mono HB1.out.size))
  clear hown2 hb2 hr2 hc14
  dsimp only [List.length_nil, List.length_cons] at x0 ⊢
  go_wp2_with fail
  go_ret
  exact ⟨rfl, HB2.out⟩

end Go.Proofs.YtjbniichcopnlaaGreatDoor
end

section
/- Layer 12 (conf), in plain Lean: what is written is read as the same calendars; what is read may be, and is written. -/
namespace Go.Proofs.YtjbniichcopnlaaGreatDoor

/-- What Print tells. -/
def confP (l : List CalL) : Bytes × Int := if confC l ≠ 0 then ([], confC l) else layL (l.map nodeC)

theorem errC_ok {c : CalL} (h : errC c = 0) : okC c = true := by
  unfold errC at h
  cases ho : okC c with
  | true => rfl
  | false => rw [ho] at h; simp at h
theorem ok_errC {c : CalL} (h : okC c = true) : errC c = 0 := by unfold errC; rw [h]; rfl
/-- Blocks of calendars are read as the calendars. -/
theorem go_nodes : ∀ (l out : List CalL), confGo (out.map CalL.name) l = 0 → out.length + l.length ≤ 32 → readGo out (l.map nodeC) = ⟨out ++ l, 0, 0⟩
  | [], out, _, _ => by simp [readGo]
  | c :: r, out, h, hl => by
    rw [confGo] at h
    by_cases h1 : errC c = 0
    case neg => rw [if_pos h1] at h; exact absurd h h1
    rw [if_neg (by simp [h1])] at h
    have hr := read_node (errC_ok h1)
    cases h2 : (out.map CalL.name).contains c.name with
    | true => rw [if_pos h2] at h; cases h
    | false =>
      rw [if_neg (by rw [h2]; decide)] at h
      rw [List.map_cons, readGo_on _ _ _ (by simp only [List.length_cons] at hl; omega) (by rw [hr]) (by rw [hr]; exact h2), hr]
      have := go_nodes r (out ++ [c]) (by rw [List.map_append]; exact h) (by simp only [List.length_append, List.length_cons, List.length_nil] at hl ⊢; omega)
      rw [this]
      simp
/-- Items alike are read alike, where they are read. -/
theorem go_alike : ∀ (l m : List NodeL) (out : List CalL), zNs l = zNs m → (readGo out m).err = 0 → readGo out l = readGo out m
  | [], [], out, _, _ => rfl
  | [], _ :: _, out, h, _ => by simp [zNs] at h
  | _ :: _, [], out, h, _ => by simp [zNs] at h
  | a :: l, b :: m, out, h, he => by
    simp only [zNs, List.cons.injEq] at h
    obtain ⟨ra, rb⟩ := read_alike a b h.1
    by_cases h1 : out.length = 32
    · rw [readGo_long _ _ _ h1] at he; cases he
    · by_cases h2 : (readC b).err = 0
      case neg => rw [readGo_bad _ _ _ h1 h2] at he; exact absurd he h2
      cases h3 : (out.map CalL.name).contains (readC b).cal.name with
      | true => rw [readGo_twice _ _ _ h1 h2 h3] at he; cases he
      | false =>
        rw [readGo_on _ _ _ h1 h2 h3] at he ⊢
        rw [readGo_on _ _ _ h1 (by rw [rb]; exact h2) (by rw [ra]; exact h3), ra]
        exact go_alike l m _ h.2 he
/-- What is read may be. -/
theorem go_conf : ∀ (l : List NodeL) (out : List CalL), (readGo out l).err = 0 → out.length ≤ 32 → confGo (out.map CalL.name) (l.map fun n => (readC n).cal) = 0 ∧ out.length + l.length ≤ 32
  | [], out, _, h => ⟨rfl, by simpa using h⟩
  | n :: r, out, he, hl => by
    by_cases h1 : out.length = 32
    · rw [readGo_long _ _ _ h1] at he; cases he
    · by_cases h2 : (readC n).err = 0
      case neg => rw [readGo_bad _ _ _ h1 h2] at he; exact absurd he h2
      cases h3 : (out.map CalL.name).contains (readC n).cal.name with
      | true => rw [readGo_twice _ _ _ h1 h2 h3] at he; cases he
      | false =>
        rw [readGo_on _ _ _ h1 h2 h3] at he
        obtain ⟨i1, i2⟩ := go_conf r _ he (by rw [List.length_append, List.length_singleton]; omega)
        rw [List.map_append] at i1
        rw [List.length_append, List.length_singleton] at i2
        rw [List.map_cons, confGo, if_neg (by simp [ok_errC ((read_right n).2 h2).2.1]), if_neg (by rw [h3]; decide)]
        exact ⟨i1, by simp only [List.length_cons]; omega⟩

/-! ### What is written is short -/
theorem conf_parts (l : List CalL) (h : confC l = 0) : l.length ≤ 32 ∧ confGo [] l = 0 := by
  unfold confC at h
  by_cases hb : 32 < l.length
  · rw [if_pos hb] at h; cases h
  · rw [if_neg hb] at h; exact ⟨by omega, h⟩
theorem confGo_ok : ∀ (l : List CalL) (seen : List Bytes), confGo seen l = 0 → ∀ c ∈ l, okC c = true
  | [], _, _, c, hc => by simp at hc
  | a :: r, seen, h, c, hc => by
    rw [confGo] at h
    by_cases h1 : errC a = 0
    case neg => rw [if_pos h1] at h; exact absurd h h1
    rw [if_neg (by simp [h1])] at h
    by_cases h2 : seen.contains a.name = true
    · rw [if_pos h2] at h; cases h
    · rw [if_neg h2] at h
      rcases List.mem_cons.1 hc with rfl | hc
      · exact errC_ok h1
      · exact confGo_ok r _ h c hc
theorem nd_plain : ∀ l : List NodeL, (∀ k ∈ l, k.kids = []) → ndL l = l.length
  | [], _ => rfl
  | n :: r, h => by
    have h0 := h n (by simp)
    simp only [ndL, ndN_eq, h0, List.length_cons, nd_plain r (fun k hk => h k (by simp [hk]))]
    omega
theorem nd_nodes : ∀ l : List CalL, ndL (l.map nodeC) ≤ 7 * l.length
  | [] => by simp [ndL]
  | c :: r => by
    have h1 := nd_nodes r
    have h2 := nd_plain (kidsC c) (fun k hk => (kids_plain c k hk).1)
    have h3 := kids_len c
    have h4 : ndN (nodeC c) = 1 + ndL (kidsC c) := by rw [ndN_eq]; rfl
    simp only [List.map_cons, ndL, List.length_cons, h4]
    omega
theorem check_nodes : ∀ l : List CalL, (∀ c ∈ l, okC c = true) → checkL 0 (l.map nodeC) = 0
  | [], _ => rfl
  | c :: r, h => by
    have hr := read_node (h c (by simp))
    have hc : checkL 0 [nodeC c] = 0 := by
      by_cases hx : checkL 0 [nodeC c] = 0
      · exact hx
      · exfalso
        unfold readC at hr
        rw [if_pos hx] at hr
        have := congrArg CalR.err hr
        simp at this
    have h1 := (checkL_cons 0 (nodeC c) [] hc).1
    simp only [List.map_cons, checkL]
    rw [if_neg (by simp [h1])]
    exact check_nodes r fun x hx => h x (by simp [hx])
/-- Print answers of calendars that may be. -/
theorem lay_nodes (l : List CalL) (h : confC l = 0) : (layL (l.map nodeC)).2 = 0 := by
  obtain ⟨h1, h2⟩ := conf_parts l h
  obtain ⟨a, _, _⟩ := few_lay (l.map nodeC) 224 (by omega) (by have := nd_nodes l; omega)
  rw [a]
  exact check_nodes l (confGo_ok l [] h2)
theorem lay_nodes_len (l : List CalL) (h : confC l = 0) : (layL (l.map nodeC)).1.length ≤ 65536 := by
  obtain ⟨h1, h2, h3, h4⟩ := lay_ok _ (lay_nodes l h)
  rw [h4]
  exact h3
/-- THE STAGE'S: what is written is read as the same calendars. -/
theorem back_law (l : List CalL) (h : confC l = 0) : confRead (layL (l.map nodeC)).1 = ⟨l, 0, 0⟩ := by
  obtain ⟨h1, h2⟩ := conf_parts l h
  obtain ⟨p1, p2, p3⟩ := print_tree (l.map nodeC) (lay_nodes l h)
  have hg := go_nodes l [] h2 (by simpa using h1)
  unfold confRead
  rw [if_neg (by simp [p1]), go_alike _ _ [] p3 (by rw [hg]), hg]
  rfl
theorem right_conf (s : Bytes) (h : (confRead s).err = 0) : confC (confRead s).cals = 0 ∧ (treeL s).err = 0 ∧ (readGo [] (treeL s).nodes).err = 0 ∧ confRead s = readGo [] (treeL s).nodes ∧ (confRead s).cals = (treeL s).nodes.map fun n => (readC n).cal := by
  by_cases he : (treeL s).err = 0
  · have e : confRead s = readGo [] (treeL s).nodes := by unfold confRead; rw [if_neg (by simp [he])]
    rw [e] at h ⊢
    obtain ⟨g1, g2⟩ := go_conf (treeL s).nodes [] h (by simp)
    have hc := (readGo_facts (treeL s).nodes []).2 h
    have hcals : (readGo [] (treeL s).nodes).cals = (treeL s).nodes.map fun n => (readC n).cal := by simpa using hc.2.1
    refine ⟨?_, he, h, rfl, hcals⟩
    rw [hcals]
    unfold confC
    rw [if_neg (by rw [List.length_map]; simp at g2; omega)]
    exact g1
  · exfalso
    unfold confRead at h
    rw [if_pos he] at h
    exact he h

/-! ### A text written anew -/
mutual
theorem print30N : ∀ (n : NodeL) (d : Nat), checkN d n = 0 → d ≤ 6 → (printN d n).length ≤ 30 * (flatN n).length
  | .mk nm p ws b ks, d, h, hd => by
    obtain ⟨h1, h2⟩ := check_head d nm p ws b ks h
    obtain ⟨h3, _, h5, h6⟩ := check_parts d nm p ws b ks h
    have hn := name16 nm h2
    have hw := joinTail_words ws h1
    have hj : (Lib.join (nm :: ws.map wordB) [32]).length = nm.length + (Lib.joinTail [32] (ws.map wordB)).length := by rw [Lib.join_cons, List.length_append]
    cases b
    · simp only [printN, Bool.false_eq_true, if_false, line_len, hj, flatN, List.length_cons, List.length_nil, List.length_append, List.length_map]
      omega
    · have hk := print30L ks (d + 1) h6 (by have := h5 rfl; omega)
      simp only [printN, if_true, List.length_append, line_len, hj, flatN, List.length_cons, List.length_nil, Lib.join_nil, List.length_map]
      omega
theorem print30L : ∀ (l : List NodeL) (d : Nat), checkL d l = 0 → d ≤ 6 → (printL d l).length ≤ 30 * (flatL l).length
  | [], d, _, _ => by simp [printL, flatL]
  | n :: r, d, h, hd => by
    obtain ⟨h1, h2⟩ := checkL_cons d n r h
    have a1 := print30N n d h1 hd
    have a2 := print30L r d h2 hd
    simp only [printL, flatL, List.length_append]
    omega
end
theorem canon_conf (s : Bytes) (hs : s.length ≤ 2000) (h : (confRead s).err = 0) : (canonL s).2.2 = 0 ∧ (canonL s).1.length ≤ 65536 ∧ confRead (canonL s).1 = confRead s := by
  obtain ⟨r1, r2, r3, r4, _⟩ := right_conf s h
  obtain ⟨hck, _⟩ := tree_right s (by omega) r2
  obtain ⟨_, _, hfl⟩ := tokens_law s r2
  have hlen : (flatL (treeL s).nodes).length ≤ 2000 := by
    rw [hfl, List.length_map]
    exact Nat.le_trans (cutL_len s) hs
  have hp := print30L (treeL s).nodes 0 hck (by omega)
  have hl : layL (treeL s).nodes = (printL 0 (treeL s).nodes, 0) := by
    unfold layL
    rw [if_neg (by simp [hck]), if_neg (by omega)]
  have hcn : canonL s = (printL 0 (treeL s).nodes, 0, 0) := by
    unfold canonL
    rw [if_neg (by simp [r2]), hl]
  have hc0 : (canonL s).2.2 = 0 := by rw [hcn]
  obtain ⟨_, c1, c2, c3⟩ := canon_law s hc0
  obtain ⟨t1, t2⟩ := tree_alike s (canonL s).1 c1 c2 c3
  refine ⟨hc0, by rw [hcn]; simp only; omega, ?_⟩
  have e : confRead (canonL s).1 = readGo [] (treeL (canonL s).1).nodes := by unfold confRead; rw [if_neg (by rw [t1]; simp [r2])]
  rw [e, go_alike _ _ [] t2 r3, r4]
end Go.Proofs.YtjbniichcopnlaaGreatDoor
end
