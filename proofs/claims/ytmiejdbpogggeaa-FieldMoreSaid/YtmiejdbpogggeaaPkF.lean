import Derived.Test.YtmiejdbpogggeaaPkE
import Derived.Test.YtmiejdbpogggeaaPkA
import Derived.Deep.Slices
import Derived.Deep.Fields
import Derived.ChangeSame
import Derived.DataShut
section
/- Layer 9 (tree): items that are read: the walks of Deep, and of Few. -/
set_option linter.unusedVariables false
set_option linter.unusedSimpArgs false
namespace Go.Proofs.Ytmiejdbpogggeaa
open Go.RowKit

/-- The slice reads as items, all they lead to below block B. -/
def ROk (w : World) (B : Nat) (A : Option Addr) (l : List NodeL) : Prop := ∃ cs, ReadsM w (· < B) 5 A l.length cs ∧ NodesOk w (· < B) l cs
theorem ROk.below {w w' : World} {B : Nat} {A : Option Addr} {l : List NodeL} (h : ROk w B A l) (hb : Below B w w') : ROk w' B A l := by
  obtain ⟨cs, h1, h2⟩ := h
  have hk : ∀ p : Addr, p.block < B → w'.cell? p = w.cell? p := fun p hp => hb.cell hp
  exact ⟨cs, h1.keep (fun _ h => h) hk, NodesOk.keep (fun _ h => h) hk _ _ h2⟩
theorem ROk.of_parse {w w' : World} {A : Option Addr} {l : List NodeL} {kcs : List Value} (h1 : ReadsM w' (fun b => w.heap.size ≤ b ∧ b < w'.heap.size) 5 A l.length kcs) (h2 : NodesOk w' (fun b => w.heap.size ≤ b ∧ b < w'.heap.size) l kcs) : ROk w' w'.heap.size A l :=
  ⟨kcs, h1.keep (fun _ h => h.2) (fun _ _ => rfl), NodesOk.keep (fun _ h => h.2) (fun _ _ => rfl) _ _ h2⟩
/-- The cells of item i, as a walk reads them. -/
theorem ROk.at {w : World} {B : Nat} {A : Option Addr} {l : List NodeL} (h : ROk w B A l) (i : Nat) (n : NodeL) (hi : l[i]? = some n) :
    ∃ ad Aw cw Ak ck, A = some ad ∧ ad.block < B ∧ w.cell? (ad.add (i * 5)) = some (.string ⟨n.name.toArray⟩) ∧ w.cell? ⟨(ad.add (i * 5)).block, (ad.add (i * 5)).off + 1, none⟩ = some (.int .i64 n.pos) ∧
      w.cell? ⟨(ad.add (i * 5)).block, (ad.add (i * 5)).off + 2, none⟩ = some (.slice Aw n.words.length cw) ∧ w.cell? ⟨(ad.add (i * 5)).block, (ad.add (i * 5)).off + 3, none⟩ = some (.bool n.block) ∧
      w.cell? ⟨(ad.add (i * 5)).block, (ad.add (i * 5)).off + 4, none⟩ = some (.slice Ak n.kids.length ck) ∧ ReadsM w (· < B) 4 Aw n.words.length (n.words.flatMap WordL.cells) ∧ ROk w B Ak n.kids := by
  obtain ⟨cs, h1, h2⟩ := h
  obtain ⟨ad, Aw, cw, Ak, ck, kcs, e, hM, c0, c1, c2, c3, c4, _, _, hw, hk, hkn⟩ := node_cells h1 h2 i n hi
  exact ⟨ad, Aw, cw, Ak, ck, e, hM, c0, c1, c2, c3, c4, hw, kcs, hk, hkn⟩

theorem deepL_cnt : ∀ l : List NodeL, deepL l ≤ cntL l
  | [] => Nat.le_refl _
  | .mk nm p ws b ks :: r => by
    have h1 := deepL_cnt ks
    have h2 := deepL_cnt r
    simp only [deepL, deepN, cntL, cntN]
    split <;> omega
theorem cntL_take : ∀ (l : List NodeL) (k : Nat), cntL (l.take k) ≤ cntL l
  | [], k => by simp [cntL]
  | x :: r, 0 => by simp [cntL]
  | x :: r, k + 1 => by
    have := cntL_take r k
    simp only [List.take_succ_cons, cntL]; omega
theorem deepN_eq (n : NodeL) : deepN n = deepL n.kids + (if n.block then 1 else 0) := by obtain ⟨nm, p, ws, b, ks⟩ := n; rfl
theorem deepL_take (l : List NodeL) (k : Nat) (n : NodeL) (h : l[k]? = some n) : deepL (l.take (k + 1)) = max (deepL (l.take k)) (deepN n) := by
  induction l generalizing k with
  | nil => simp at h
  | cons x r ih =>
    cases k with
    | zero =>
      simp only [List.getElem?_cons_zero, Option.some.injEq] at h
      subst h
      simp [deepL]
    | succ k =>
      have := ih k (by simpa using h)
      simp only [List.take_succ_cons, deepL, this]
      omega

mutual
/-- How many items. -/
def ndN : NodeL → Nat
  | .mk _ _ _ _ ks => 1 + ndL ks
def ndL : List NodeL → Nat
  | [] => 0
  | n :: r => ndN n + ndL r
end
theorem ndN_eq (n : NodeL) : ndN n = 1 + ndL n.kids := by obtain ⟨nm, p, ws, b, ks⟩ := n; rfl
theorem ndL_take (l : List NodeL) (k : Nat) (n : NodeL) (h : l[k]? = some n) : ndL (l.take (k + 1)) = ndL (l.take k) + ndN n := by
  induction l generalizing k with
  | nil => simp at h
  | cons x r ih =>
    cases k with
    | zero =>
      simp only [List.getElem?_cons_zero, Option.some.injEq] at h
      subst h
      simp [ndL]
    | succ k =>
      have := ih k (by simpa using h)
      simp only [List.take_succ_cons, ndL, this]
      omega
theorem ndL_cnt : ∀ l : List NodeL, ndL l ≤ cntL l
  | [] => Nat.le_refl _
  | .mk nm p ws b ks :: r => by
    have h1 := ndL_cnt ks
    have h2 := ndL_cnt r
    simp only [ndL, ndN, cntL, cntN]; omega
theorem cntL_take_mem (l : List NodeL) (k : Nat) (n : NodeL) (h : l[k]? = some n) : cntL (l.take k) + cntN n ≤ cntL l := by
  induction l generalizing k with
  | nil => simp at h
  | cons x r ih =>
    cases k with
    | zero =>
      simp only [List.getElem?_cons_zero, Option.some.injEq] at h
      subst h
      simp [cntL]
    | succ k =>
      have := ih k (by simpa using h)
      simp only [List.take_succ_cons, cntL]
      omega
theorem cntN_eq (n : NodeL) : cntN n = 1 + n.words.length + cntL n.kids := by obtain ⟨nm, p, ws, b, ks⟩ := n; rfl
/-- What is known of each item of a list that may be. -/
theorem check_at : ∀ (l : List NodeL) (d i : Nat) (n : NodeL), checkL d l = 0 → l[i]? = some n → n.words.length ≤ 8 ∧ n.words.all wordOk = true ∧ nameL n.name = true ∧ (n.block = false → n.kids = []) ∧ (n.block = true → d ≠ 6) ∧ checkL (d + 1) n.kids = 0
  | [], d, i, n, _, h => by simp at h
  | x :: r, d, 0, n, hl, h => by
    simp only [List.getElem?_cons_zero, Option.some.injEq] at h
    subst h
    obtain ⟨h1, _⟩ := checkL_cons d _ _ hl
    obtain ⟨nm, p, ws, b, ks⟩ := x
    obtain ⟨p1, p2, p3, p4⟩ := check_parts d nm p ws b ks h1
    refine ⟨p1, ?_, ?_, p2, p3, p4⟩
    · simp only [checkN] at h1
      show ws.all wordOk = true
      cases hw : ws.all wordOk
      · rw [hw] at h1; simp at h1
      · rfl
    · simp only [checkN] at h1
      show nameL nm = true
      cases hw : nameL nm
      · rw [hw] at h1; simp at h1
      · rfl
  | x :: r, d, i + 1, n, hl, h => by
    obtain ⟨_, h2⟩ := checkL_cons d _ _ hl
    exact check_at r d i n h2 (by simpa using h)

set_option maxRecDepth 100000 in
set_option maxHeartbeats 2000000 in
theorem ref9_left : ∀ (N : Nat) (l : List NodeL) (A : Option Addr) (c : Nat) (w : World) (B d : Nat) (most deep : Int), cntL l < N → (cntL l : Int) ≤ most → most ≤ 100000 → B ≤ w.heap.size → ROk w B A l →
    (l = [] ∨ (checkL d l = 0 ∧ d ≤ 6 ∧ 8 - (d : Int) ≤ deep)) → 0 ≤ deep → deep ≤ 100 →
    Calls Try.prog 27 #[.slice A l.length c, .int .i64 most, .int .i64 deep] w fun e w' => e = .returned (.int .i64 (most - ndL l)) ∧ Below w.heap.size w w' := by
  intro N
  induction N with
  | zero => intro l A c w B d most deep h; omega
  | succ N ih =>
    intro l A c w B d most deep hN hsm hmx hB hok hchk hdp0 hdp1
    have hlen := cntL_len l
    have HOK := Lib.hid hok
    have HIH := Lib.hid ih
    clear ih hok
    have hg : (deep == 0) = false ∨ (0 < (l.length : Int)) = False := by
      rcases hchk with rfl | ⟨_, h6, h8⟩
      · right; simp
      · left; exact beq_false_of_ne (by omega)
    have key : (∀ (h : 0 < l.length), (deep == 0) = false) := fun h => by
      rcases hchk with rfl | ⟨_, h6, h8⟩
      · simp at h
      · exact beq_false_of_ne (by omega)
    have HCK := Lib.hid hchk
    clear hchk hg
    have hmn : ∀ k : Nat, (ndL (l.take k) : Int) ≤ cntL l := fun k => by have := ndL_cnt (l.take k); have := cntL_take l k; omega
    have HMN := Lib.hid hmn
    clear hmn
    by_cases hemp : l.length = 0
    · have hl0 : l = [] := List.eq_nil_of_length_eq_zero hemp
      subst hl0
      clear key hemp
      have hz : most - (ndL [] : Int) = most := by simp [ndL]
      rw [hz]
      cases hdd : (deep == 0)
      all_goals
        go_enter Try.func27, Try.ntmps27
        go_wp2_with fail
        go_loopw [1, 18] (fun m i wr => m = .int .i64 most ∧ i = .int .i64 0 ∧ wr = w) (fun _ _ _ => 0)
        case atStart => exact ⟨rfl, rfl, rfl⟩
        case round =>
          obtain ⟨rfl, rfl, rfl⟩ := hrel
          go_wp2_with fail
          go_ret
          exact ⟨rfl, Below.refl _ _⟩
    · have hd0 := key (by omega)
      clear key
      go_enter Try.func27, Try.ntmps27
      go_wp2_with fail
      go_loopw [1, 18] (fun m i wr => ∃ k : Nat, k ≤ l.length ∧ m = .int .i64 (most - ndL (l.take k)) ∧ i = .int .i64 k ∧ Below w.heap.size w wr) (fun _ i _ => l.length - (intOf i).toNat)
      case atStart => exact ⟨0, Nat.zero_le _, by simp [ndL], rfl, Below.refl _ _⟩
      case round =>
        obtain ⟨k, hk, rfl, rfl, hb⟩ := hrel
        by_cases hlt : k < l.length
        · obtain ⟨n, hn⟩ : ∃ n, l[k]? = some n := ⟨_, List.getElem?_eq_getElem hlt⟩
          obtain ⟨ad, Aw, cw, Ak, ck, hA, hadB, c0, c1, c2, c3, c4, hw, hkk⟩ := (HOK.out.below (hb.mono hB)).at k n hn
          subst hA
          obtain ⟨hck, hd6, hd8⟩ := HCK.out.resolve_left (fun e => hemp (by rw [e]; rfl))
          obtain ⟨p1, p2, p3, p4, p5, p6⟩ := check_at l d k n hck hn
          have hbs := hb.size
          have hc1 := cntL_take_mem l k n hn
          have hc2 := cntN_eq n
          have hc3 := ndL_cnt (l.take k)
          have hc4 := ndL_cnt n.kids
          have hnt := ndL_take l k n hn
          rw [ndN_eq] at hnt
          have HNT := Lib.hid hnt
          have HKK := Lib.hid hkk
          have HB := Lib.hid hb
          have lk : (k : Int) < l.length := by omega
          have lk0 : (0 : Int) ≤ k := by omega
          have w1f : IntKind.i64.wrap ((k : Int) + 1) = (k : Int) + 1 := by rw [IntKind.wrap_i64]; omega
          obtain ⟨m, hm⟩ : ∃ m : Int, m = most - ndL (l.take k) := ⟨_, rfl⟩
          have hm0 : ¬ m < 0 := by omega
          have hm1 : (cntL n.kids : Int) ≤ m - 1 := by omega
          have hm2 : m ≤ 100000 := by omega
          have HM := Lib.hid hm
          rw [← hm]
          have hw20 : ¬ (20 < (n.words.length : Int)) := by omega
          have w3f : IntKind.i64.wrap (m - 1) = m - 1 := by rw [IntKind.wrap_i64]; omega
          have w4f : IntKind.i64.wrap (deep - 1) = deep - 1 := by rw [IntKind.wrap_i64]; omega
          have hkd : n.kids = [] ∨ (checkL (d + 1) n.kids = 0 ∧ d + 1 ≤ 6 ∧ 8 - ((d + 1 : Nat) : Int) ≤ deep - 1) := by
            cases hnb : n.block
            · exact .inl (p4 hnb)
            · exact .inr ⟨p6, by have := p5 hnb; omega, by omega⟩
          have HKD := Lib.hid hkd
          clear hkd p1 p2 p3 p4 p5 p6 hck hw hnt hm hb
          go_wp2_with fail
          refine (HIH.out n.kids Ak ck _ B (d + 1) (m - 1) (deep - 1) (by omega) hm1 (by omega) (by simp; omega) (HKK.out.below ((Below.refl _ _).alloc (by omega) _)) HKD.out (by omega) (by omega)).mono ?_
          rintro e w2 ⟨rfl, hb2⟩
          have hb3 : Below w.heap.size w w2 := HB.out.trans (((Below.refl wr.heap.size wr).alloc (Nat.le_refl _) _ |>.trans (hb2.mono (by simp))).mono hbs)
          have HB3 := Lib.hid hb3
          clear hb2 hb3
          go_wp2_with fail
          refine ⟨⟨k + 1, by omega, ?_, by go_num, HB3.out⟩, by simp [intOf]; omega⟩
          refine val_int ?_
          rw [HNT.out, HM.out]
          omega
        · have hkl : k = l.length := by omega
          have HD := Lib.hid (show ndL (l.take k) = ndL l by rw [hkl, List.take_length])
          have lk : ¬ (k : Int) < l.length := by omega
          go_wp2_with fail
          go_ret
          exact ⟨by first | rfl | exact ret_int (by rw [HD.out]), hb⟩

end Go.Proofs.Ytmiejdbpogggeaa
end

section
/- Layer 9 (tree): the walk of Same. -/
set_option linter.unusedVariables false
set_option linter.unusedSimpArgs false
namespace Go.Proofs.Ytmiejdbpogggeaa
open Go.RowKit

def wordV (t : WordL) : Value := .agg #[.bool t.num, .int .i64 t.n, .string ⟨t.s.toArray⟩, .int .i64 t.pos]
theorem sameWs_len : ∀ (l m : List WordL), l.length ≠ m.length → sameWs l m = false
  | [], [], h => absurd rfl h
  | [], _ :: _, _ => rfl
  | _ :: _, [], _ => rfl
  | a :: l, b :: m, h => by
    rw [sameWs, sameWs_len l m (by simpa using h)]; simp
theorem sameWs_step : ∀ (l m : List WordL) (k : Nat) (a b : WordL), l[k]? = some a → m[k]? = some b → sameWs (l.drop k) (m.drop k) = (sameW a b && sameWs (l.drop (k + 1)) (m.drop (k + 1)))
  | [], _, k, a, b, h, _ => by simp at h
  | _ :: _, [], k, a, b, _, h => by simp at h
  | x :: l, y :: m, 0, a, b, h1, h2 => by
    simp only [List.getElem?_cons_zero, Option.some.injEq] at h1 h2
    subst h1 h2
    simp [sameWs]
  | x :: l, y :: m, k + 1, a, b, h1, h2 => by
    simpa using sameWs_step l m k a b (by simpa using h1) (by simpa using h2)

mutual
/-- No item has more than twenty words. -/
def fewN : NodeL → Bool
  | .mk _ _ ws _ ks => decide (ws.length ≤ 20) && fewNs ks
def fewNs : List NodeL → Bool
  | [] => true
  | n :: r => fewN n && fewNs r
end
mutual
theorem few_of_checkN : ∀ (n : NodeL) (d : Nat), checkN d n = 0 → fewN n = true
  | .mk nm p ws b ks, d, h => by
    rw [checkN] at h
    split at h
    · simp at h
    rename_i h1
    split at h
    · simp at h
    have hk := few_of_checkL ks (d + 1) h
    simp only [Bool.or_eq_true, decide_eq_true_eq, not_or] at h1
    simp only [fewN, hk, Bool.and_true, decide_eq_true_eq]
    omega
theorem few_of_checkL : ∀ (l : List NodeL) (d : Nat), checkL d l = 0 → fewNs l = true
  | [], d, _ => rfl
  | n :: r, d, h => by
    obtain ⟨h1, h2⟩ := checkL_cons d _ _ h
    simp only [fewNs, few_of_checkN n d h1, few_of_checkL r d h2, Bool.and_self]
end
theorem few_at : ∀ (l : List NodeL) (k : Nat) (n : NodeL), fewNs l = true → l[k]? = some n → n.words.length ≤ 20 ∧ fewNs n.kids = true
  | [], k, n, _, h => by simp at h
  | x :: r, 0, n, h, hk => by
    simp only [List.getElem?_cons_zero, Option.some.injEq] at hk
    subst hk
    obtain ⟨nm, p, ws, b, ks⟩ := x
    simp only [fewNs, fewN, Bool.and_eq_true, decide_eq_true_eq] at h
    exact h.1
  | x :: r, k + 1, n, h, hk => by
    simp only [fewNs, Bool.and_eq_true] at h
    exact few_at r k n h.2 (by simpa using hk)
theorem sameN_eq (x y : NodeL) : sameN x y = (sameWs x.words y.words && decide (x.name = y.name) && (x.block == y.block) && sameNs x.kids y.kids) := by
  obtain ⟨a, b, c, d, e⟩ := x
  obtain ⟨a', b', c', d', e'⟩ := y
  rfl
theorem sameNs_len : ∀ (l m : List NodeL), l.length ≠ m.length → sameNs l m = false
  | [], [], h => absurd rfl h
  | [], _ :: _, _ => rfl
  | _ :: _, [], _ => rfl
  | a :: l, b :: m, h => by
    rw [sameNs, sameNs_len l m (by simpa using h)]; simp
theorem sameNs_step : ∀ (l m : List NodeL) (k : Nat) (a b : NodeL), l[k]? = some a → m[k]? = some b → sameNs (l.drop k) (m.drop k) = (sameN a b && sameNs (l.drop (k + 1)) (m.drop (k + 1)))
  | [], _, k, a, b, h, _ => by simp at h
  | _ :: _, [], k, a, b, _, h => by simp at h
  | x :: l, y :: m, 0, a, b, h1, h2 => by
    simp only [List.getElem?_cons_zero, Option.some.injEq] at h1 h2
    subst h1 h2
    simp [sameNs]
  | x :: l, y :: m, k + 1, a, b, h1, h2 => by
    simpa using sameNs_step l m k a b (by simpa using h1) (by simpa using h2)

end Go.Proofs.Ytmiejdbpogggeaa
end

section
/- Layer 9 (tree): whether any items are few: the walk of left. -/
set_option linter.unusedVariables false
set_option linter.unusedSimpArgs false
namespace Go.Proofs.Ytmiejdbpogggeaa
open Go.RowKit

mutual
/-- Names, texts, and lists are no longer than may be. -/
def fitN : NodeL → Prop
  | .mk nm _ ws _ ks => nm.length ≤ maxLen ∧ ws.length ≤ maxLen ∧ (∀ w ∈ ws, w.s.length ≤ maxLen) ∧ ks.length ≤ maxLen ∧ fitNs ks
def fitNs : List NodeL → Prop
  | [] => True
  | n :: r => fitN n ∧ fitNs r
end
theorem fit_at : ∀ (l : List NodeL) (k : Nat) (n : NodeL), fitNs l → l[k]? = some n → fitN n
  | [], k, n, _, h => by simp at h
  | x :: r, 0, n, h, hk => by
    simp only [List.getElem?_cons_zero, Option.some.injEq] at hk
    subst hk
    exact h.1
  | x :: r, k + 1, n, h, hk => fit_at r k n h.2 (by simpa using hk)
theorem fit_parts (n : NodeL) (h : fitN n) : n.name.length ≤ maxLen ∧ n.words.length ≤ maxLen ∧ (∀ w ∈ n.words, w.s.length ≤ maxLen) ∧ n.kids.length ≤ maxLen ∧ fitNs n.kids := by
  obtain ⟨a, b, c, d, e⟩ := n
  exact ⟨h.1, h.2.1, h.2.2.1, h.2.2.2.1, h.2.2.2.2⟩

theorem leftN_eq (most deep : Int) (n : NodeL) : leftN most deep n = if most < 0 ∨ 20 < n.words.length then -1 else leftL (most - 1) (deep - 1) n.kids := by
  obtain ⟨a, b, c, d, e⟩ := n
  simp only [leftN, NodeL.words, NodeL.kids]
  congr 1
theorem leftL_go (most deep : Int) (l : List NodeL) (h : deep ≠ 0) : leftL most deep l = leftGo most deep l := by
  cases l with
  | nil => simp only [leftL, leftGo]
  | cons n r => rw [leftL, if_neg h]
theorem leftGo_step : ∀ (l : List NodeL) (k : Nat) (n : NodeL) (most deep : Int), l[k]? = some n → leftGo most deep (l.drop k) = leftGo (leftN most deep n) deep (l.drop (k + 1))
  | [], k, n, _, _, h => by simp at h
  | x :: r, 0, n, most, deep, h => by
    simp only [List.getElem?_cons_zero, Option.some.injEq] at h
    subst h
    simp only [List.drop_zero, leftGo, Nat.zero_add, List.drop_succ_cons]
  | x :: r, k + 1, n, most, deep, h => by simpa using leftGo_step r k n most deep (by simpa using h)
mutual
theorem left_geN : ∀ (n : NodeL) (most deep : Int), -1 ≤ most → -1 ≤ leftN most deep n ∧ leftN most deep n ≤ most ∧ (0 ≤ leftN most deep n → fewN n = true ∧ (cntN n : Int) ≤ 21 * (most - leftN most deep n))
  | .mk nm p ws b ks, most, deep, h => by
    simp only [leftN]
    split
    · exact ⟨by omega, by omega, fun h => by omega⟩
    · rename_i h1
      obtain ⟨a1, a2, a3⟩ := left_geL ks (most - 1) (deep - 1) (by omega)
      refine ⟨a1, by omega, fun h0 => ?_⟩
      obtain ⟨b1, b2⟩ := a3 h0
      simp only [fewN, b1, Bool.and_true, decide_eq_true_eq, cntN]
      refine ⟨by omega, by omega⟩
theorem left_geL : ∀ (l : List NodeL) (most deep : Int), -1 ≤ most → -1 ≤ leftL most deep l ∧ leftL most deep l ≤ most ∧ (0 ≤ leftL most deep l → fewNs l = true ∧ (cntL l : Int) ≤ 21 * (most - leftL most deep l))
  | [], most, deep, h => by simp only [leftL, cntL]; exact ⟨h, Int.le_refl _, fun _ => ⟨rfl, by omega⟩⟩
  | n :: r, most, deep, h => by
    simp only [leftL]
    split
    · exact ⟨by omega, by omega, fun h => by omega⟩
    · simp only [leftGo]
      obtain ⟨a1, a2, a3⟩ := left_geN n most deep h
      obtain ⟨b1, b2, b3⟩ := left_geG r (leftN most deep n) deep a1
      refine ⟨b1, by omega, fun h0 => ?_⟩
      obtain ⟨c1, c2⟩ := b3 h0
      obtain ⟨d1, d2⟩ := a3 (by omega)
      simp only [fewNs, c1, d1, Bool.and_self, cntL]
      refine ⟨trivial, by omega⟩
theorem left_geG : ∀ (l : List NodeL) (most deep : Int), -1 ≤ most → -1 ≤ leftGo most deep l ∧ leftGo most deep l ≤ most ∧ (0 ≤ leftGo most deep l → fewNs l = true ∧ (cntL l : Int) ≤ 21 * (most - leftGo most deep l))
  | [], most, deep, h => by simp only [leftGo, cntL]; exact ⟨h, Int.le_refl _, fun _ => ⟨rfl, by omega⟩⟩
  | n :: r, most, deep, h => by
    simp only [leftGo]
    obtain ⟨a1, a2, a3⟩ := left_geN n most deep h
    obtain ⟨b1, b2, b3⟩ := left_geG r (leftN most deep n) deep a1
    refine ⟨b1, by omega, fun h0 => ?_⟩
    obtain ⟨c1, c2⟩ := b3 h0
    obtain ⟨d1, d2⟩ := a3 (by omega)
    simp only [fewNs, c1, d1, Bool.and_self, cntL]
    refine ⟨trivial, by omega⟩
end

set_option maxRecDepth 100000 in
set_option maxHeartbeats 2000000 in
theorem ref9_leftG : ∀ (D : Nat) (l : List NodeL) (A : Option Addr) (c : Nat) (w : World) (B : Nat) (most : Int), D ≤ 100 → -1 ≤ most → most ≤ 100000 → l.length ≤ maxLen → fitNs l → B ≤ w.heap.size → ROk w B A l →
    Calls Try.prog 27 #[.slice A l.length c, .int .i64 most, .int .i64 D] w fun e w' => e = .returned (.int .i64 (leftL most D l)) ∧ Below w.heap.size w w' := by
  intro D
  induction D with
  | zero =>
    intro l A c w B most _ _ _ hlen hfit hB hok
    by_cases h0 : 0 < l.length
    · have hd : ((0 : Nat) : Int) = 0 := rfl
      have h0' : (0 : Int) < l.length := by omega
      have hr : leftL most ((0 : Nat) : Int) l = -1 := by
        cases l with
        | nil => simp at h0
        | cons n r => simp only [leftL]; rw [if_pos hd]
      rw [hr]
      clear hok hfit
      go_enter Try.func27, Try.ntmps27
      go_wp2_with fail
      go_ret
      exact ⟨rfl, Below.refl _ _⟩
    · have hl0 : l = [] := List.eq_nil_of_length_eq_zero (by omega)
      subst hl0
      have hr : leftL most ((0 : Nat) : Int) [] = most := by simp only [leftL]
      rw [hr]
      clear hok hfit h0
      go_enter Try.func27, Try.ntmps27
      go_wp2_with fail
      go_loopw [1, 18] (fun m i wr => m = .int .i64 most ∧ i = .int .i64 0 ∧ wr = w) (fun _ _ _ => 0)
      case atStart => exact ⟨rfl, rfl, rfl⟩
      case round =>
        obtain ⟨rfl, rfl, rfl⟩ := hrel
        go_wp2_with fail
        go_ret
        exact ⟨rfl, Below.refl _ _⟩
  | succ D ih =>
    intro l A c w B most hD hm0 hm1 hlen hfit hB hok
    have hlen' := hlen
    unfold maxLen at hlen'
    have hd0 : (((D + 1 : Nat) : Int) == 0) = false := beq_false_of_ne (by omega)
    have hr : leftL most ((D + 1 : Nat) : Int) l = leftGo most ((D + 1 : Nat) : Int) l := leftL_go _ _ _ (by omega)
    rw [hr]
    have w2f : IntKind.i64.wrap (((D + 1 : Nat) : Int) - 1) = (D : Int) := by rw [IntKind.wrap_i64]; omega
    have hdd : ((D + 1 : Nat) : Int) - 1 = (D : Int) := by omega
    have HDD := Lib.hid hdd
    generalize hde : ((D + 1 : Nat) : Int) = dp at *
    have HOK := Lib.hid hok
    have HFIT := Lib.hid hfit
    have HIH := Lib.hid ih
    clear ih hok hfit hr hde hdd
    go_enter Try.func27, Try.ntmps27
    go_wp2_with fail
    go_loopw [1, 18] (fun m i wr => ∃ (k : Nat) (x : Int), k ≤ l.length ∧ -1 ≤ x ∧ x ≤ 100000 ∧ m = .int .i64 x ∧ i = .int .i64 k ∧ Below w.heap.size w wr ∧ leftGo most dp l = leftGo x dp (l.drop k)) (fun _ i _ => l.length - (intOf i).toNat)
    case atStart => exact ⟨0, most, Nat.zero_le _, hm0, hm1, rfl, rfl, Below.refl _ _, by simp⟩
    case round =>
      obtain ⟨k, x, hk, hx0, hx1, rfl, rfl, hb, hs⟩ := hrel
      have hbs := hb.size
      by_cases hlt : k < l.length
      · obtain ⟨n, hn⟩ : ∃ n, l[k]? = some n := ⟨_, List.getElem?_eq_getElem hlt⟩
        obtain ⟨ad, Aw, cw, Ak, ck, hA, hadB, c0, c1, c2, c3, c4, hw, hkk⟩ := (HOK.out.below (hb.mono hB)).at k n hn
        subst hA
        obtain ⟨_, f2, _, f4, f5⟩ := fit_parts n (fit_at l k n HFIT.out hn)
        rw [leftGo_step l k n x dp hn, leftN_eq] at hs
        have lk : (k : Int) < l.length := by omega
        have lk0 : (0 : Int) ≤ k := by omega
        have w1f : IntKind.i64.wrap ((k : Int) + 1) = (k : Int) + 1 := by rw [IntKind.wrap_i64]; omega
        have hneg : ∀ (r : List NodeL), leftGo (-1) dp r = -1 := fun r => by
          cases r with
          | nil => simp only [leftGo]
          | cons y r =>
            have := left_geG (y :: r) (-1) dp (by omega)
            omega
        by_cases hneg0 : x < 0
        · have hres : leftGo most dp l = -1 := by rw [hs, if_pos (Or.inl hneg0)]; exact hneg _
          have HRES := Lib.hid hres
          have HB := Lib.hid (hb.alloc (by omega) (.cells #[.string ⟨n.name.toArray⟩, .int .i64 n.pos, .slice Aw n.words.length cw, .bool n.block, .slice Ak n.kids.length ck] 25))
          clear hs hres hneg hb hw hkk f2 f4 f5
          go_wp2_with fail
          go_ret
          exact ⟨by rw [HRES.out]; rfl, HB.out⟩
        · by_cases hw20 : 20 < n.words.length
          · have hres : leftGo most dp l = -1 := by rw [hs, if_pos (Or.inr hw20)]; exact hneg _
            have hw20' : (20 : Int) < n.words.length := by omega
            have HRES := Lib.hid hres
            have HB := Lib.hid (hb.alloc (by omega) (.cells #[.string ⟨n.name.toArray⟩, .int .i64 n.pos, .slice Aw n.words.length cw, .bool n.block, .slice Ak n.kids.length ck] 25))
            clear hs hres hneg hb hw hkk f2 f4 f5 hw20
            go_wp2_with fail
            go_ret
            exact ⟨by rw [HRES.out]; rfl, HB.out⟩
          · rw [if_neg (by omega), HDD.out] at hs
            have hle := left_geL n.kids (x - 1) D (by omega)
            have hw20' : ¬ ((20 : Int) < n.words.length) := by omega
            have w3f : IntKind.i64.wrap (x - 1) = x - 1 := by rw [IntKind.wrap_i64]; omega
            have HI := Lib.hid (fun W (h1 : B ≤ W.heap.size) (h2 : ROk W B Ak n.kids) => HIH.out n.kids Ak ck W B (x - 1) (by omega) (by omega) (by omega) f4 f5 h1 h2)
            have HS := Lib.hid hs
            have HB := Lib.hid hb
            have HKK := Lib.hid hkk
            generalize leftL (x - 1) (D : Int) n.kids = y at *
            clear hs hneg hb hw hkk f2 f4 f5 hw20
            go_wp2_with fail
            refine (HI.out _ (by simp; omega) (HKK.out.below ((Below.refl _ _).alloc (by omega) _))).mono ?_
            rintro e w2 ⟨rfl, hb2⟩
            have hb3 : Below w.heap.size w w2 := HB.out.trans (((Below.refl wr.heap.size wr).alloc (Nat.le_refl _) _ |>.trans (hb2.mono (by simp))).mono hbs)
            have HB3 := Lib.hid hb3
            clear hb2 hb3
            go_wp2_with fail
            exact ⟨⟨k + 1, y, by omega, hle.1, by omega, rfl, by go_num, HB3.out, HS.out⟩, by simp [intOf]; omega⟩
      · have hkl : k = l.length := by omega
        have hs2 : leftGo most dp l = x := by rw [hs, List.drop_eq_nil_of_le (by omega)]; simp only [leftGo]
        have HS2 := Lib.hid hs2
        have lk : ¬ (k : Int) < l.length := by omega
        clear hs hs2
        go_wp2_with fail
        go_ret
        exact ⟨by rw [HS2.out]; rfl, hb⟩

theorem ref9_FewG (l : List NodeL) (A : Option Addr) (c : Nat) (w : World) (B : Nat) (most : Int) (hm0 : 0 ≤ most) (hm1 : most ≤ 100000) (hlen : l.length ≤ maxLen) (hfit : fitNs l) (hB : B ≤ w.heap.size) (hok : ROk w B A l) :
    Calls Try.prog 12 #[.slice A l.length c, .int .i64 most] w fun e w' => e = .returned (.bool (decide (0 ≤ leftL most 12 l))) ∧ Below w.heap.size w w' := by
  have H := Lib.hid (ref9_leftG 12 l A c w B most (by omega) (by omega) hm1 hlen hfit hB hok)
  clear hok hfit
  have e12 : ((12 : Nat) : Int) = 12 := rfl
  rw [e12] at H
  generalize leftL most 12 l = r at *
  go_enter Try.func12, Try.ntmps12
  go_wp2_with fail
  refine H.out.mono ?_
  rintro e w1 ⟨rfl, hb1⟩
  go_wp2
  go_ret
  exact ⟨by first | rfl | exact ret_bool (by simp), hb1⟩

end Go.Proofs.Ytmiejdbpogggeaa
end

section
/- Layer 9 (tree): the walk of Check, where items may be. -/
set_option linter.unusedVariables false
set_option linter.unusedSimpArgs false
namespace Go.Proofs.Ytmiejdbpogggeaa
open Go.RowKit

theorem name16 (s : Bytes) (h : nameL s = true) : s.length ≤ 16 := by
  unfold nameL at h
  cases s with
  | nil => simp
  | cons c r => simp only [Bool.and_eq_true, decide_eq_true_eq] at h; exact h.1.1
theorem name_at (s : Bytes) (h : nameL s = true) (W : World) : Calls Try.prog 17 #[.string ⟨s.toArray⟩] W fun e w' => e = .returned (.bool true) ∧ W = w' := by
  have hl := name16 s h
  have := lex_Name ⟨s.toArray⟩ W (by unfold maxLen; show s.toArray.size ≤ _; rw [List.size_toArray]; omega)
  rw [show (ByteArray.mk s.toArray).data.toList = s from rfl, h] at this
  exact this
theorem tree_worded (t : WordL) (ht : wordOk t = true) (w : World) :
    Calls Try.prog 75 #[.agg #[.bool t.num, .int .i64 t.n, .string ⟨t.s.toArray⟩, .int .i64 t.pos]] w fun e w' => e = .returned (.bool true) ∧ Below w.heap.size w w' := by
  obtain ⟨num, n, s, pos⟩ := t
  dsimp only
  unfold wordOk at ht
  have hbW : Below w.heap.size w (w.alloc (.cells #[.bool num, .int .i64 n, .string ⟨s.toArray⟩, .int .i64 pos] 40)) := (Below.refl _ _).alloc (Nat.le_refl _) _
  have HB := Lib.hid hbW
  clear hbW
  cases num
  · simp only [Bool.false_eq_true, if_false, Bool.and_eq_true, decide_eq_true_eq] at ht
    obtain ⟨rfl, hn⟩ := ht
    have HN := Lib.hid (name_at s hn)
    go_enter Try.func75, Try.ntmps75
    go_wp2_with fail
    refine (HN.out _).mono ?_
    rintro e w1 ⟨rfl, rfl⟩
    go_wp2
    go_ret
    exact ⟨rfl, HB.out⟩
  · simp only [if_true, Bool.and_eq_true, decide_eq_true_eq] at ht
    obtain ⟨⟨rfl, h0⟩, h1⟩ := ht
    go_enter Try.func75, Try.ntmps75
    go_wp2
    go_ret
    exact ⟨rfl, HB.out⟩

theorem tree_within1 (t : WordL) (ht : wordOk t = true) (w : World) :
    Calls Try.prog 74 #[.agg #[.bool t.num, .int .i64 t.n, .string ⟨t.s.toArray⟩, .int .i64 t.pos]] w fun e w' => e = .returned (.bool false) ∧ Below w.heap.size w w' := by
  have HW := Lib.hid (tree_worded t ht)
  clear ht
  go_enter Try.func74, Try.ntmps74
  go_wp2_with fail
  refine (HW.out _).mono ?_
  rintro e w1 ⟨rfl, hb1⟩
  have hB : Below w.heap.size w w1 := ((Below.refl _ _).alloc (Nat.le_refl _) _).trans (hb1.mono (by simp))
  go_wp2
  go_ret
  exact ⟨rfl, hB⟩

set_option maxHeartbeats 1000000 in
theorem words_index (ws : List WordL) (hall : ws.all wordOk = true) (hlen : ws.length ≤ 8) (A : Option Addr) (c : Nat) (w : World) (B : Nat) (hB : B ≤ w.heap.size) (hr : ReadsM w (· < B) 4 A ws.length (ws.flatMap WordL.cells)) :
    Calls Try.prog 86 #[.slice A ws.length c, .func (.func 74) #[] #[]] w fun e w' => e = .returned (.int .i64 (-1)) ∧ Below w.heap.size w w' := by
  have HR := Lib.hid hr
  have HALL := Lib.hid hall
  clear hr hall
  go_enter Try.func86, Try.ntmps86
  go_wp2_with fail
  go_loopw [8] (fun i wr => ∃ k : Nat, k ≤ ws.length ∧ i = .int .i64 k ∧ Below w.heap.size w wr) (fun i _ => ws.length - (intOf i).toNat)
  case atStart => exact ⟨0, Nat.zero_le _, rfl, Below.refl _ _⟩
  case round =>
    obtain ⟨k, hk, rfl, hb⟩ := hrel
    have hbs := hb.size
    by_cases hlt : k < ws.length
    · obtain ⟨t, ht⟩ : ∃ t, ws[k]? = some t := ⟨_, List.getElem?_eq_getElem hlt⟩
      have hk' : ∀ p : Addr, p.block < B → wr.cell? p = w.cell? p := fun p hp => hb.cell (by omega)
      obtain ⟨ad, rfl, _, d0, d1, d2, d3⟩ := word_cells (HR.out.keep (fun _ h => h) hk') k t ht
      have hok : wordOk t = true := List.all_eq_true.1 HALL.out t (List.mem_of_getElem? ht)
      have HW := Lib.hid (tree_within1 t hok)
      have HB := Lib.hid hb
      have lk : (k : Int) < ws.length := by omega
      have lk0 : (0 : Int) ≤ k := by omega
      have w1f : IntKind.i64.wrap ((k : Int) + 1) = (k : Int) + 1 := by rw [IntKind.wrap_i64]; omega
      clear hk' hok hb
      go_wp2_with fail
      refine (HW.out _).mono ?_
      rintro e w2 ⟨rfl, hb2⟩
      have HB2 := Lib.hid (HB.out.trans (hb2.mono hbs))
      clear hb2
      go_wp2_with fail
      exact ⟨⟨k + 1, by omega, by go_num, HB2.out⟩, by simp [intOf]; omega⟩
    · have lk : ¬ (k : Int) < ws.length := by omega
      go_wp2_with fail
      go_ret
      exact ⟨rfl, hb⟩
theorem words_contains (ws : List WordL) (hall : ws.all wordOk = true) (hlen : ws.length ≤ 8) (A : Option Addr) (c : Nat) (w : World) (B : Nat) (hB : B ≤ w.heap.size) (hr : ReadsM w (· < B) 4 A ws.length (ws.flatMap WordL.cells)) :
    Calls Try.prog 73 #[.slice A ws.length c, .func (.func 74) #[] #[]] w fun e w' => e = .returned (.bool false) ∧ Below w.heap.size w w' := by
  have H := Lib.hid (words_index ws hall hlen A c w B hB hr)
  clear hr hall
  go_enter Try.func73, Try.ntmps73
  go_wp2_with fail
  refine H.out.mono ?_
  rintro e w1 ⟨rfl, hb1⟩
  go_wp2
  go_ret
  exact ⟨rfl, hb1⟩

set_option maxRecDepth 100000 in
set_option maxHeartbeats 4000000 in
theorem tree_within : ∀ (N : Nat) (l : List NodeL) (A : Option Addr) (c : Nat) (w : World) (B d : Nat), cntL l < N → cntL l ≤ 100000 → B ≤ w.heap.size → ROk w B A l → d + N ≤ 200000 → (checkL d l = 0) →
    Calls Try.prog 48 #[.slice A l.length c, .int .i64 d] w fun e w' => e = .returned (.int .i64 0) ∧ Below w.heap.size w w' := by
  intro N
  induction N with
  | zero => intro l A c w B d h; omega
  | succ N ih =>
    intro l A c w B d hN hsm hB hok hd100 hchk
    have hlen := cntL_len l
    have HOK := Lib.hid hok
    have HIH := Lib.hid ih
    have HCK := Lib.hid hchk
    clear ih hok hchk
    go_enter Try.func48, Try.ntmps48
    go_wp2_with fail
    go_loopw [11] (fun i wr => ∃ k : Nat, k ≤ l.length ∧ i = .int .i64 k ∧ Below w.heap.size w wr) (fun i _ => l.length - (intOf i).toNat)
    case atStart => exact ⟨0, Nat.zero_le _, rfl, Below.refl _ _⟩
    case round =>
      obtain ⟨k, hk, rfl, hb⟩ := hrel
      have hbs := hb.size
      by_cases hlt : k < l.length
      · obtain ⟨n, hn⟩ : ∃ n, l[k]? = some n := ⟨_, List.getElem?_eq_getElem hlt⟩
        obtain ⟨ad, Aw, cw, Ak, ck, hA, hadB, c0, c1, c2, c3, c4, hw, hkk⟩ := (HOK.out.below (hb.mono hB)).at k n hn
        subst hA
        obtain ⟨p1, p2, p3, p4, p5, p6⟩ := check_at l d k n HCK.out hn
        have hc1 := cntL_take_mem l k n hn
        have hc2 := cntN_eq n
        have HNM := Lib.hid (name_at n.name p3)
        have hblk := heap_alloc_new wr (.cells #[.string ⟨n.name.toArray⟩, .int .i64 n.pos, .slice Aw n.words.length cw, .bool n.block, .slice Ak n.kids.length ck] 25)
        have HBLK := Lib.hid hblk
        have hW := (Below.refl wr.heap.size wr).alloc (Nat.le_refl _) (.cells #[.string ⟨n.name.toArray⟩, .int .i64 n.pos, .slice Aw n.words.length cw, .bool n.block, .slice Ak n.kids.length ck] 25)
        have HW := Lib.hid hW
        have HWC := Lib.hid (words_contains n.words p2 p1 Aw cw _ B (by simp; omega) (hw.keep (w' := wr.alloc (.cells #[.string ⟨n.name.toArray⟩, .int .i64 n.pos, .slice Aw n.words.length cw, .bool n.block, .slice Ak n.kids.length ck] 25)) (fun _ h => h) (fun p hp => hW.cell (by omega))))
        have HKK := Lib.hid hkk
        have HB := Lib.hid hb
        have H5 := Lib.hid p5
        have H4 := Lib.hid p4
        have H6 := Lib.hid p6
        have lk : (k : Int) < l.length := by omega
        have lk0 : (0 : Int) ≤ k := by omega
        have w1f : IntKind.i64.wrap ((k : Int) + 1) = (k : Int) + 1 := by rw [IntKind.wrap_i64]; omega
        have w2f : IntKind.i64.wrap ((d : Int) + 1) = (d : Int) + 1 := by rw [IntKind.wrap_i64]; omega
        have hw8 : ¬ (8 < (n.words.length : Int)) := by omega
        clear p1 p2 p3 p4 p5 p6 hblk hW hw hkk hb
        go_wp2_with fail
        refine HWC.out.mono ?_
        rintro e w2 ⟨rfl, hb2⟩
        have hlt2 : wr.heap.size < w2.heap.size := by have := hb2.size; simp at this; omega
        have hblk2 : w2.heap[wr.heap.size]? = _ := (hb2.block _ (by simp)).trans HBLK.out
        have e0 := Joins.cell_of_block hblk2 0
        have e2 := Joins.cell_of_block hblk2 2
        have e3 := Joins.cell_of_block hblk2 3
        have e4 := Joins.cell_of_block hblk2 4
        have hb3 : Below w.heap.size w w2 := HB.out.trans ((HW.out.trans (hb2.mono (by simp))).mono hbs)
        have hb32 : Below B wr w2 := (HW.out.trans (hb2.mono (by simp))).mono (by omega)
        have HB3 := Lib.hid hb3
        have HKK3 := Lib.hid (HKK.out.below hb32)
        clear hb2 hb3 hb32 hblk2
        go_wp2_with fail
        refine (HNM.out _).mono ?_
        rintro e w3 ⟨rfl, rfl⟩
        have HB4 := HB3
        have hB4 : B ≤ w2.heap.size := by omega
        cases hnb : n.block with
        | false =>
          have hk0 := H4.out hnb
          rw [hnb] at e3
          rw [hk0] at e4 HKK3
          simp only [List.length_nil] at e4
          have HI := Lib.hid (HIH.out [] Ak ck w2 B (d + 1) (by simp only [cntL]; omega) (by simp [cntL]) hB4 HKK3.out (by omega) rfl)
          simp only [List.length_nil] at HI
          have HI2 := Lib.hid (show Calls Try.prog 48 #[.slice Ak 0 ck, .int .i64 ((d : Int) + 1)] w2 fun e w' => e = .returned (.int .i64 0) ∧ Below w2.heap.size w2 w' from HI.out)
          clear HI
          go_wp2_with fail
          refine HI2.out.mono ?_
          rintro e w5 ⟨rfl, hb5⟩
          have HB5 := Lib.hid (HB4.out.trans (hb5.mono HB4.out.size))
          clear hb5
          go_wp2_with fail
          exact ⟨⟨k + 1, by omega, by go_num, HB5.out⟩, by simp [intOf]; omega⟩
        | true =>
          have hd6 : ((d : Int) == 6) = false := beq_false_of_ne (by have := H5.out hnb; omega)
          rw [hnb] at e3
          have HI := Lib.hid (HIH.out n.kids Ak ck w2 B (d + 1) (by omega) (by omega) hB4 HKK3.out (by omega) H6.out)
          have HI2 := Lib.hid (show Calls Try.prog 48 #[.slice Ak n.kids.length ck, .int .i64 ((d : Int) + 1)] w2 fun e w' => e = .returned (.int .i64 0) ∧ Below w2.heap.size w2 w' from HI.out)
          clear HI
          go_wp2_with fail
          refine HI2.out.mono ?_
          rintro e w5 ⟨rfl, hb5⟩
          have HB5 := Lib.hid (HB4.out.trans (hb5.mono HB4.out.size))
          clear hb5
          go_wp2_with fail
          exact ⟨⟨k + 1, by omega, by go_num, HB5.out⟩, by simp [intOf]; omega⟩
      · have lk : ¬ (k : Int) < l.length := by omega
        go_wp2_with fail
        go_ret
        exact ⟨rfl, hb⟩

theorem tree_Check (l : List NodeL) (A : Option Addr) (c : Nat) (w : World) (B : Nat) (hsm : cntL l ≤ 100000) (hB : B ≤ w.heap.size) (hok : ROk w B A l) (hchk : checkL 0 l = 0) :
    Calls Try.prog 20 #[.slice A l.length c] w fun e w' => e = .returned (.int .i64 0) ∧ Below w.heap.size w w' := by
  have H := Lib.hid (tree_within (cntL l + 1) l A c w B 0 (by omega) hsm hB hok (by omega) hchk)
  clear hok hchk
  go_enter Try.func20, Try.ntmps20
  go_wp2_with fail
  refine H.out.mono ?_
  rintro e w1 ⟨rfl, hb1⟩
  go_wp2
  go_ret
  exact ⟨rfl, hb1⟩
theorem ref9_Few (l : List NodeL) (A : Option Addr) (c : Nat) (w : World) (B : Nat) (most : Int) (hsm : (cntL l : Int) ≤ most) (hmx : most ≤ 100000) (hB : B ≤ w.heap.size) (hok : ROk w B A l) (hchk : checkL 0 l = 0) :
    Calls Try.prog 12 #[.slice A l.length c, .int .i64 most] w fun e w' => e = .returned (.bool true) ∧ Below w.heap.size w w' := by
  have H := Lib.hid (ref9_left (cntL l + 1) l A c w B 0 most 12 (by omega) hsm hmx hB hok (.inr ⟨hchk, by omega, by omega⟩) (by omega) (by omega))
  have hn := ndL_cnt l
  have h0 : (0 : Int) ≤ most - ndL l := by omega
  clear hok hchk
  generalize most - (ndL l : Int) = r at *
  go_enter Try.func12, Try.ntmps12
  go_wp2_with fail
  refine H.out.mono ?_
  rintro e w1 ⟨rfl, hb1⟩
  go_wp2
  go_ret
  exact ⟨by first | rfl | exact ret_bool (by simp; omega), hb1⟩

end Go.Proofs.Ytmiejdbpogggeaa
end

section
/- Layer 9 (tree): whether any items may be: the walk of Check. -/
set_option linter.unusedVariables false
set_option linter.unusedSimpArgs false
namespace Go.Proofs.Ytmiejdbpogggeaa
open Go.RowKit

theorem name_atG (s : Bytes) (h : s.length ≤ maxLen) (W : World) : Calls Try.prog 17 #[.string ⟨s.toArray⟩] W fun e w' => e = .returned (.bool (nameL s)) ∧ W = w' :=
  lex_Name ⟨s.toArray⟩ W (by show s.toArray.size ≤ _; rw [List.size_toArray]; exact h)

theorem tree_wordedG (t : WordL) (ht : t.s.length ≤ maxLen) (w : World) :
    Calls Try.prog 75 #[.agg #[.bool t.num, .int .i64 t.n, .string ⟨t.s.toArray⟩, .int .i64 t.pos]] w fun e w' => e = .returned (.bool (wordOk t)) ∧ Below w.heap.size w w' := by
  obtain ⟨num, n, s, pos⟩ := t
  dsimp only at ht ⊢
  have hbW : Below w.heap.size w (w.alloc (.cells #[.bool num, .int .i64 n, .string ⟨s.toArray⟩, .int .i64 pos] 40)) := (Below.refl _ _).alloc (Nat.le_refl _) _
  have HB := Lib.hid hbW
  have HN := Lib.hid (name_atG s ht)
  clear hbW ht
  cases num
  · have hr : wordOk ⟨false, n, s, pos⟩ = (decide (n = 0) && nameL s) := rfl
    rw [hr]
    clear hr
    by_cases hn : n = 0
    · subst hn
      rw [decide_eq_true rfl, Bool.true_and]
      generalize nameL s = r at *
      go_enter Try.func75, Try.ntmps75
      go_wp2_with fail
      refine (HN.out _).mono ?_
      rintro e w1 ⟨rfl, rfl⟩
      go_wp2
      go_ret
      exact ⟨rfl, HB.out⟩
    · rw [decide_eq_false hn, Bool.false_and]
      have hn' : (n == 0) = false := by simpa using hn
      clear hn HN
      go_enter Try.func75, Try.ntmps75
      go_wp2_with fail
      go_ret
      exact ⟨rfl, HB.out⟩
  · have hr : wordOk ⟨true, n, s, pos⟩ = (decide (s = []) && decide (0 ≤ n) && decide (n ≤ 999999999)) := rfl
    rw [hr]
    clear hr HN
    by_cases hs : s = []
    · subst hs
      rw [decide_eq_true rfl, Bool.true_and]
      by_cases h0 : 0 ≤ n
      · rw [decide_eq_true h0, Bool.true_and]
        go_enter Try.func75, Try.ntmps75
        go_wp2
        go_ret
        exact ⟨rfl, HB.out⟩
      · rw [decide_eq_false h0, Bool.false_and]
        go_enter Try.func75, Try.ntmps75
        go_wp2
        go_ret
        exact ⟨rfl, HB.out⟩
    · rw [decide_eq_false hs, Bool.false_and, Bool.false_and]
      have hs' : (s == []) = false := by simpa using hs
      clear hs
      go_enter Try.func75, Try.ntmps75
      go_wp2
      go_ret
      exact ⟨rfl, HB.out⟩

theorem tree_within1G (t : WordL) (ht : t.s.length ≤ maxLen) (w : World) :
    Calls Try.prog 74 #[.agg #[.bool t.num, .int .i64 t.n, .string ⟨t.s.toArray⟩, .int .i64 t.pos]] w fun e w' => e = .returned (.bool (!wordOk t)) ∧ Below w.heap.size w w' := by
  have HW := Lib.hid (tree_wordedG t ht)
  clear ht
  go_enter Try.func74, Try.ntmps74
  go_wp2_with fail
  refine (HW.out _).mono ?_
  rintro e w1 ⟨rfl, hb1⟩
  have hB : Below w.heap.size w w1 := ((Below.refl _ _).alloc (Nat.le_refl _) _).trans (hb1.mono (by simp))
  go_wp2
  go_ret
  exact ⟨rfl, hB⟩

/-- Where the first one stands that is wrong; -1: none is. -/
def badAt : List WordL → Nat → Int
  | [], _ => -1
  | t :: r, k => if wordOk t then badAt r (k + 1) else k
theorem badAt_all : ∀ (l : List WordL) (k : Nat), (0 ≤ badAt l k) = (l.all wordOk = false)
  | [], k => by simp [badAt]
  | t :: r, k => by
    rw [badAt, List.all_cons]
    cases h : wordOk t
    · simp
    · simpa using badAt_all r (k + 1)
theorem badAt_step (l : List WordL) (k : Nat) (t : WordL) (h : l[k]? = some t) : badAt (l.drop k) k = if wordOk t then badAt (l.drop (k + 1)) (k + 1) else k := by
  obtain ⟨hk, rfl⟩ := List.getElem?_eq_some_iff.1 h
  rw [List.drop_eq_getElem_cons hk, badAt]

set_option maxHeartbeats 1000000 in
theorem words_indexG (ws : List WordL) (hfit : ∀ t ∈ ws, t.s.length ≤ maxLen) (hlen : ws.length ≤ maxLen) (A : Option Addr) (c : Nat) (w : World) (B : Nat) (hB : B ≤ w.heap.size) (hr : ReadsM w (· < B) 4 A ws.length (ws.flatMap WordL.cells)) :
    Calls Try.prog 86 #[.slice A ws.length c, .func (.func 74) #[] #[]] w fun e w' => e = .returned (.int .i64 (badAt ws 0)) ∧ Below w.heap.size w w' := by
  have HR := Lib.hid hr
  have HFIT := Lib.hid hfit
  unfold maxLen at hlen
  clear hr hfit
  go_enter Try.func86, Try.ntmps86
  go_wp2_with fail
  go_loopw [8] (fun i wr => ∃ k : Nat, k ≤ ws.length ∧ i = .int .i64 k ∧ Below w.heap.size w wr ∧ badAt ws 0 = badAt (ws.drop k) k) (fun i _ => ws.length - (intOf i).toNat)
  case atStart => exact ⟨0, Nat.zero_le _, rfl, Below.refl _ _, by simp⟩
  case round =>
    obtain ⟨k, hk, rfl, hb, hs⟩ := hrel
    have hbs := hb.size
    by_cases hlt : k < ws.length
    · obtain ⟨t, ht⟩ : ∃ t, ws[k]? = some t := ⟨_, List.getElem?_eq_getElem hlt⟩
      have hk' : ∀ p : Addr, p.block < B → wr.cell? p = w.cell? p := fun p hp => hb.cell (by omega)
      obtain ⟨ad, rfl, _, d0, d1, d2, d3⟩ := word_cells (HR.out.keep (fun _ h => h) hk') k t ht
      have HW := Lib.hid (tree_within1G t (HFIT.out t (List.mem_of_getElem? ht)))
      rw [badAt_step ws k t ht] at hs
      have HB := Lib.hid hb
      have lk : (k : Int) < ws.length := by omega
      have lk0 : (0 : Int) ≤ k := by omega
      have w1f : IntKind.i64.wrap ((k : Int) + 1) = (k : Int) + 1 := by rw [IntKind.wrap_i64]; omega
      cases hok : wordOk t
      · rw [hok, if_neg (by simp)] at hs
        rw [hok] at HW
        have HS := Lib.hid hs
        clear hk' hok hb hs
        go_wp2_with fail
        refine (HW.out _).mono ?_
        rintro e w2 ⟨rfl, hb2⟩
        have HB2 := Lib.hid (HB.out.trans (hb2.mono hbs))
        clear hb2
        go_wp2_with fail
        go_ret
        exact ⟨by rw [HS.out]; rfl, HB2.out⟩
      · rw [hok, if_pos rfl] at hs
        rw [hok] at HW
        have HS := Lib.hid hs
        clear hk' hok hb hs
        go_wp2_with fail
        refine (HW.out _).mono ?_
        rintro e w2 ⟨rfl, hb2⟩
        have HB2 := Lib.hid (HB.out.trans (hb2.mono hbs))
        clear hb2
        go_wp2_with fail
        exact ⟨⟨k + 1, by omega, by go_num, HB2.out, HS.out⟩, by simp [intOf]; omega⟩
    · have lk : ¬ (k : Int) < ws.length := by omega
      have hs2 : badAt ws 0 = -1 := by rw [hs, List.drop_eq_nil_of_le (by omega)]; rfl
      have HS2 := Lib.hid hs2
      clear hs hs2
      go_wp2_with fail
      go_ret
      exact ⟨by rw [HS2.out]; rfl, hb⟩
theorem words_containsG (ws : List WordL) (hfit : ∀ t ∈ ws, t.s.length ≤ maxLen) (hlen : ws.length ≤ maxLen) (A : Option Addr) (c : Nat) (w : World) (B : Nat) (hB : B ≤ w.heap.size) (hr : ReadsM w (· < B) 4 A ws.length (ws.flatMap WordL.cells)) :
    Calls Try.prog 73 #[.slice A ws.length c, .func (.func 74) #[] #[]] w fun e w' => e = .returned (.bool (!ws.all wordOk)) ∧ Below w.heap.size w w' := by
  have H := Lib.hid (words_indexG ws hfit hlen A c w B hB hr)
  have hbd := badAt_all ws 0
  generalize badAt ws 0 = x at *
  generalize ws.all wordOk = y at *
  have HR := Lib.hid hbd
  clear hr hfit hbd
  go_enter Try.func73, Try.ntmps73
  go_wp2_with fail
  refine H.out.mono ?_
  rintro e w1 ⟨rfl, hb1⟩
  go_wp2
  go_ret
  exact ⟨by first | exact ret_bool (by have := HR.out; cases y <;> simp_all) | rfl, hb1⟩

theorem checkN_eq (d : Nat) (n : NodeL) : checkN d n = if (!n.words.all wordOk || !nameL n.name || decide (8 < n.words.length) || (!n.block && decide (0 < n.kids.length))) = true then 1 else if n.block = true ∧ d = 6 then 7 else checkL (d + 1) n.kids := by
  obtain ⟨a, b, c, e, f⟩ := n
  simp only [checkN, NodeL.words, NodeL.kids, NodeL.name, NodeL.block]
  congr 1
theorem checkL_step : ∀ (l : List NodeL) (k d : Nat) (n : NodeL), l[k]? = some n → checkL d (l.drop k) = if checkN d n ≠ 0 then checkN d n else checkL d (l.drop (k + 1))
  | [], k, d, n, h => by simp at h
  | x :: r, 0, d, n, h => by
    simp only [List.getElem?_cons_zero, Option.some.injEq] at h
    subst h
    simp only [List.drop_zero, checkL, Nat.zero_add, List.drop_succ_cons]
  | x :: r, k + 1, d, n, h => by simpa using checkL_step r k d n (by simpa using h)
theorem checkL_nil (d : Nat) : checkL d [] = 0 := by simp only [checkL]

set_option maxRecDepth 100000 in
set_option maxHeartbeats 4000000 in
theorem tree_withinG : ∀ (N : Nat) (l : List NodeL) (A : Option Addr) (c : Nat) (w : World) (B d : Nat), cntL l < N → cntL l ≤ 100000 → B ≤ w.heap.size → ROk w B A l → d + N ≤ 200000 → fitNs l →
    Calls Try.prog 48 #[.slice A l.length c, .int .i64 d] w fun e w' => e = .returned (.int .i64 (checkL d l)) ∧ Below w.heap.size w w' := by
  intro N
  induction N with
  | zero => intro l A c w B d h; omega
  | succ N ih =>
    intro l A c w B d hN hsm hB hok hd100 hfit
    have hlen := cntL_len l
    have HOK := Lib.hid hok
    have HIH := Lib.hid ih
    have HFIT := Lib.hid hfit
    clear ih hok hfit
    go_enter Try.func48, Try.ntmps48
    go_wp2_with fail
    go_loopw [11] (fun i wr => ∃ k : Nat, k ≤ l.length ∧ i = .int .i64 k ∧ Below w.heap.size w wr ∧ checkL d l = checkL d (l.drop k)) (fun i _ => l.length - (intOf i).toNat)
    case atStart => exact ⟨0, Nat.zero_le _, rfl, Below.refl _ _, by simp⟩
    case round =>
      obtain ⟨k, hk, rfl, hb, hs⟩ := hrel
      have hbs := hb.size
      by_cases hlt : k < l.length
      · obtain ⟨n, hn⟩ : ∃ n, l[k]? = some n := ⟨_, List.getElem?_eq_getElem hlt⟩
        obtain ⟨ad, Aw, cw, Ak, ck, hA, hadB, c0, c1, c2, c3, c4, hw, hkk⟩ := (HOK.out.below (hb.mono hB)).at k n hn
        subst hA
        obtain ⟨f1, f2, f3, f4, f5⟩ := fit_parts n (fit_at l k n HFIT.out hn)
        have hc1 := cntL_take_mem l k n hn
        have hc2 := cntN_eq n
        have hst := checkL_step l k d n hn
        rw [checkN_eq] at hst
        have HNM := Lib.hid (name_atG n.name f1)
        have HBLK := Lib.hid (heap_alloc_new wr (.cells #[.string ⟨n.name.toArray⟩, .int .i64 n.pos, .slice Aw n.words.length cw, .bool n.block, .slice Ak n.kids.length ck] 25))
        have hW := (Below.refl wr.heap.size wr).alloc (Nat.le_refl _) (.cells #[.string ⟨n.name.toArray⟩, .int .i64 n.pos, .slice Aw n.words.length cw, .bool n.block, .slice Ak n.kids.length ck] 25)
        have HW := Lib.hid hW
        have HWC := Lib.hid (words_containsG n.words f3 f2 Aw cw _ B (by simp; omega) (hw.keep (w' := wr.alloc (.cells #[.string ⟨n.name.toArray⟩, .int .i64 n.pos, .slice Aw n.words.length cw, .bool n.block, .slice Ak n.kids.length ck] 25)) (fun _ h => h) (fun p hp => hW.cell (by omega))))
        have HKK := Lib.hid hkk
        have HB := Lib.hid hb
        have HF5 := Lib.hid f5
        have lk : (k : Int) < l.length := by omega
        have lk0 : (0 : Int) ≤ k := by omega
        have w1f : IntKind.i64.wrap ((k : Int) + 1) = (k : Int) + 1 := by rw [IntKind.wrap_i64]; omega
        have w2f : IntKind.i64.wrap ((d : Int) + 1) = (d : Int) + 1 := by rw [IntKind.wrap_i64]; omega
        have HS := Lib.hid hs
        have HST := Lib.hid hst
        clear hW hw hkk hb f1 f2 f3 f4 f5 hs hst
        go_wp2_with fail
        refine HWC.out.mono ?_
        rintro e w2 ⟨rfl, hb2⟩
        have hlt2 : wr.heap.size < w2.heap.size := by have := hb2.size; simp at this; omega
        have hblk2 : w2.heap[wr.heap.size]? = _ := (hb2.block _ (by simp)).trans HBLK.out
        have e0 := Joins.cell_of_block hblk2 0
        have e2 := Joins.cell_of_block hblk2 2
        have e3 := Joins.cell_of_block hblk2 3
        have e4 := Joins.cell_of_block hblk2 4
        have hb3 : Below w.heap.size w w2 := HB.out.trans ((HW.out.trans (hb2.mono (by simp))).mono hbs)
        have hb32 : Below B wr w2 := (HW.out.trans (hb2.mono (by simp))).mono (by omega)
        have HB3 := Lib.hid hb3
        have HKK3 := Lib.hid (HKK.out.below hb32)
        clear hb2 hb3 hb32 hblk2 HWC HBLK HW HKK
        cases hall : n.words.all wordOk
        · have HR := Lib.hid (show checkL d l = 1 by rw [HS.out, HST.out, hall]; simp)
          clear HST HS
          go_wp2_with fail
          go_ret
          exact ⟨by rw [HR.out]; rfl, HB3.out⟩
        cases hnm : nameL n.name
        · have HR := Lib.hid (show checkL d l = 1 by rw [HS.out, HST.out, hnm]; simp)
          rw [hnm] at HNM
          clear HST HS
          go_wp2_with fail
          refine (HNM.out _).mono ?_
          rintro e w3 ⟨rfl, rfl⟩
          go_wp2_with fail
          go_ret
          exact ⟨by rw [HR.out]; rfl, HB3.out⟩
        rw [hnm] at HNM
        by_cases hw8 : 8 < n.words.length
        · have HR := Lib.hid (show checkL d l = 1 by rw [HS.out, HST.out]; simp [hw8])
          have hw8' : (8 : Int) < n.words.length := by omega
          clear HST HS hw8
          go_wp2_with fail
          refine (HNM.out _).mono ?_
          rintro e w3 ⟨rfl, rfl⟩
          go_wp2_with fail
          go_ret
          exact ⟨by rw [HR.out]; rfl, HB3.out⟩
        have hw8' : ¬ (8 : Int) < n.words.length := by omega
        have hB4 : B ≤ w2.heap.size := by omega
        cases hbl : n.block
        · rw [hbl] at e3
          by_cases hk0 : 0 < n.kids.length
          · have HR := Lib.hid (show checkL d l = 1 by rw [HS.out, HST.out, hbl]; simp [hk0])
            have hk0' : (0 : Int) < n.kids.length := by omega
            clear HST HS hw8
            go_wp2_with fail
            refine (HNM.out _).mono ?_
            rintro e w3 ⟨rfl, rfl⟩
            go_wp2_with fail
            go_ret
            exact ⟨by rw [HR.out]; rfl, HB3.out⟩
          · have hkn : n.kids = [] := List.eq_nil_of_length_eq_zero (by omega)
            have HR := Lib.hid (show checkL d l = checkL d (l.drop (k + 1)) by rw [HS.out, HST.out, hall, hnm, hbl, hkn]; simp [hw8, checkL_nil])
            have HI := Lib.hid (HIH.out [] Ak ck w2 B (d + 1) (by simp only [cntL]; omega) (by simp only [cntL]; omega) hB4 (by have := HKK3.out; rw [hkn] at this; exact this) (by omega) (by simp only [fitNs]))
            rw [checkL_nil] at HI
            have HI2 := Lib.hid (show Calls Try.prog 48 #[.slice Ak 0 ck, .int .i64 ((d : Int) + 1)] w2 fun e w' => e = .returned (.int .i64 0) ∧ Below w2.heap.size w2 w' from HI.out)
            rw [hkn] at e4
            simp only [List.length_nil] at e4
            clear HST HS hw8 HI
            go_wp2_with fail
            refine (HNM.out _).mono ?_
            rintro e w3 ⟨rfl, rfl⟩
            go_wp2_with fail
            refine HI2.out.mono ?_
            rintro e w5 ⟨rfl, hb5⟩
            have HB5 := Lib.hid (HB3.out.trans (hb5.mono HB3.out.size))
            clear hb5
            go_wp2_with fail
            exact ⟨⟨k + 1, by omega, by go_num, HB5.out, HR.out⟩, by simp [intOf]; omega⟩
        · rw [hbl] at e3
          by_cases hd6 : d = 6
          · have HR := Lib.hid (show checkL d l = 7 by rw [HS.out, HST.out, hall, hnm, hbl]; simp [hw8, hd6])
            have hd6' : ((d : Int) == 6) = true := by simp [hd6]
            clear HST HS hw8 hd6
            go_wp2_with fail
            refine (HNM.out _).mono ?_
            rintro e w3 ⟨rfl, rfl⟩
            go_wp2_with fail
            go_ret
            exact ⟨by rw [HR.out]; rfl, HB3.out⟩
          · have hd6' : ((d : Int) == 6) = false := beq_false_of_ne (by omega)
            have HR := Lib.hid (show checkL d l = if checkL (d + 1) n.kids ≠ 0 then checkL (d + 1) n.kids else checkL d (l.drop (k + 1)) by rw [HS.out, HST.out, hall, hnm, hbl]; simp [hw8, hd6])
            have HI := Lib.hid (HIH.out n.kids Ak ck w2 B (d + 1) (by omega) (by omega) hB4 HKK3.out (by omega) HF5.out)
            have HI2 := Lib.hid (show Calls Try.prog 48 #[.slice Ak n.kids.length ck, .int .i64 ((d : Int) + 1)] w2 fun e w' => e = .returned (.int .i64 (checkL (d + 1) n.kids)) ∧ Below w2.heap.size w2 w' from HI.out)
            clear HST HS hw8 HI hd6
            generalize checkL (d + 1) n.kids = y at *
            by_cases hy : y = 0
            · subst hy
              rw [if_neg (by simp)] at HR
              go_wp2_with fail
              refine (HNM.out _).mono ?_
              rintro e w3 ⟨rfl, rfl⟩
              go_wp2_with fail
              refine HI2.out.mono ?_
              rintro e w5 ⟨rfl, hb5⟩
              have HB5 := Lib.hid (HB3.out.trans (hb5.mono HB3.out.size))
              clear hb5
              go_wp2_with fail
              exact ⟨⟨k + 1, by omega, by go_num, HB5.out, HR.out⟩, by simp [intOf]; omega⟩
            · rw [if_pos hy] at HR
              have hy' : (y != 0) = true := by simpa using hy
              clear hy
              go_wp2_with fail
              refine (HNM.out _).mono ?_
              rintro e w3 ⟨rfl, rfl⟩
              go_wp2_with fail
              refine HI2.out.mono ?_
              rintro e w5 ⟨rfl, hb5⟩
              have HB5 := Lib.hid (HB3.out.trans (hb5.mono HB3.out.size))
              clear hb5
              go_wp2_with fail
              go_ret
              exact ⟨by rw [HR.out]; rfl, HB5.out⟩
      · have lk : ¬ (k : Int) < l.length := by omega
        have hs2 : checkL d l = 0 := by rw [hs, List.drop_eq_nil_of_le (by omega), checkL_nil]
        have HS2 := Lib.hid hs2
        clear hs hs2
        go_wp2_with fail
        go_ret
        exact ⟨by rw [HS2.out]; rfl, hb⟩

theorem tree_CheckG (l : List NodeL) (A : Option Addr) (c : Nat) (w : World) (B : Nat) (hsm : cntL l ≤ 100000) (hB : B ≤ w.heap.size) (hok : ROk w B A l) (hfit : fitNs l) :
    Calls Try.prog 20 #[.slice A l.length c] w fun e w' => e = .returned (.int .i64 (checkL 0 l)) ∧ Below w.heap.size w w' := by
  have H := Lib.hid (tree_withinG (cntL l + 1) l A c w B 0 (by omega) hsm hB hok (by omega) hfit)
  clear hok hfit
  go_enter Try.func20, Try.ntmps20
  go_wp2_with fail
  refine H.out.mono ?_
  rintro e w1 ⟨rfl, hb1⟩
  go_wp2
  go_ret
  exact ⟨rfl, hb1⟩

end Go.Proofs.Ytmiejdbpogggeaa
end

section
/- An argument that is a slice of items, opened. -/
set_option maxRecDepth 100000
namespace Go.Proofs.Ytmiejdbpogggeaa
open Go.RowKit Go.WideShapes Go.ChangeShapes Go.WideElems Go.Deep

section
variable {H : Type} {enc : TypeId × Value → H} {P : Program} {w : World} {base : Nat} {spare : Nat → Bool} {held : Bool}
/-- A slice of structs whose fields are one cell each, opened; each field is read with less fuel. -/
theorem open_slice_less {t e : TypeId} {fs : Array Field} {fuel : Nat} {cs : List Value} {x : DataW H × List MemPlace} (ht : P.underlying t = some (.slice e)) (he : P.underlying e = some (.struct fs))
    (hone : oneCellFields P fs = true) (hC : P.cellsOf e = fs.size) (h : DataW.trod enc P w base spare held fuel t cs = some x) :
    cs = [.slice none 0 0] ∨
    ∃ (a : Addr) (len cap : Nat), cs = [.slice (some a) len cap] ∧ len ≤ cap ∧ cap ≤ maxLen ∧
      ∀ i, i < len → ∀ (j : Nat) (f : Field), fs[j]? = some f → ∃ (v : Value) (y : DataW H × List MemPlace) (n : Nat), n < fuel ∧ w.cell? (a.add (i * fs.size + j)) = some v ∧ DataW.trod enc P w base spare held n f.type [v] = some y := by
  rcases DataW.trod_slice ht h with h0 | ⟨a, len, cap, elems, rest, n, hfu, hcs, hx, hb, hl, hm, hlen, hel, _, _⟩
  · exact .inl h0.1
  · refine .inr ⟨a, len, cap, hcs, hl, hm, fun i him j f hj => ?_⟩
    have hi := hel i him
    rw [List.getElem?_eq_getElem (by omega)] at hi
    obtain ⟨cs', hc, ht'⟩ := Option.bind_eq_some_iff.1 hi
    rw [hC] at hc
    obtain ⟨ys, n', hn', hy, hlen', hyl, hf⟩ := DataW.trod_struct he ht'
    obtain ⟨_, hcl, hat⟩ := World.cells?_some hc
    obtain ⟨ho, hk⟩ := hone_of hone j f hj
    have hjl : j < fs.size := (Array.getElem?_eq_some_iff.1 hj).1
    have hcell := hat j hjl
    have hv : cs'[j]? = some (cs'[j]'(by omega)) := List.getElem?_eq_getElem (by omega)
    have h1 := hf j f hj
    rw [ho, hk] at h1
    have hone' : (cs'.drop j).take 1 = [cs'[j]'(by omega)] := by
      rw [List.drop_eq_getElem_cons (by omega)]
      rfl
    rw [hone'] at h1
    have hys : ys[j]? = some (ys[j]'(by omega)) := List.getElem?_eq_getElem (by omega)
    refine ⟨_, _, n', by omega, ?_, h1.trans hys⟩
    rw [← Go.Deep.add_add, hcell, hv]
end

theorem exists_list {α : Type} (n : Nat) (p : Nat → α → Prop) (h : ∀ i, i < n → ∃ a, p i a) : ∃ l : List α, l.length = n ∧ ∀ i a, l[i]? = some a → p i a := by
  induction n with
  | zero => exact ⟨[], rfl, fun i a h => by simp at h⟩
  | succ n ih =>
    obtain ⟨l, hl, hp⟩ := ih fun i hi => h i (by omega)
    obtain ⟨a, ha⟩ := h n (by omega)
    refine ⟨l ++ [a], by simp [hl], fun i b hb => ?_⟩
    by_cases hi : i < l.length
    · rw [List.getElem?_append_left hi] at hb
      exact hp i b hb
    · rw [List.getElem?_append_right (by omega)] at hb
      have h0 : i - l.length = 0 := by
        have := (List.getElem?_eq_some_iff.1 hb).1
        simp at this
        omega
      rw [h0] at hb
      simp at hb
      subst hb
      rw [show i = n by omega]
      exact ha

theorem cell_lt {w : World} {p : Addr} {v : Value} (h : w.cell? p = some v) : p.block < w.heap.size := by
  rcases Nat.lt_or_ge p.block w.heap.size with hlt | hge
  · exact hlt
  · exfalso
    unfold World.cell? at h
    rw [Array.getElem?_eq_none hge] at h
    simp at h

theorem open_words {H : Type} {enc : TypeId × Value → H} {w : World} {base : Nat} {spare : Nat → Bool} {held : Bool} {fuel : Nat} {cs : List Value} {x : DataW H × List MemPlace}
    (h : DataW.trod enc Try.prog w base spare held fuel 22 cs = some x) :
    ∃ (A : Option Addr) (c : Nat) (l : List WordL), cs = [.slice A l.length c] ∧ NilOk A c ∧ ReadsM w (· < w.heap.size) 4 A l.length (l.flatMap WordL.cells) ∧ l.length ≤ maxLen ∧ ∀ t ∈ l, t.s.length ≤ maxLen := by
  rcases open_slice_less Try.underlying22 Try.underlying40 (by kernel_rfl) (by kernel_rfl) h with rfl | ⟨a, len, cap, rfl, hl, hm, hi⟩
  · exact ⟨none, 0, [], rfl, fun _ => rfl, ReadsM.nil _ _ _ _, by simp, by simp⟩
  · obtain ⟨l, hlen, hp⟩ := exists_list len (fun (i : Nat) (t : WordL) => t.s.length ≤ maxLen ∧ w.cell? (a.add (i * 4)) = some (.bool t.num) ∧ w.cell? (a.add (i * 4 + 1)) = some (.int .i64 t.n) ∧ w.cell? (a.add (i * 4 + 2)) = some (.string ⟨t.s.toArray⟩) ∧ w.cell? (a.add (i * 4 + 3)) = some (.int .i64 t.pos)) (fun i him => by
      obtain ⟨v0, y0, n0, _, c0, t0⟩ := hi i him 0 _ rfl
      obtain ⟨v1, y1, n1, _, c1, t1⟩ := hi i him 1 _ rfl
      obtain ⟨v2, y2, n2, _, c2, t2⟩ := hi i him 2 _ rfl
      obtain ⟨v3, y3, n3, _, c3, t3⟩ := hi i him 3 _ rfl
      obtain ⟨k0, h0, _⟩ := DataW.trod_bool Try.underlying4 t0
      obtain ⟨k1, h1, _, w1⟩ := DataW.trod_int (k := .i64) Try.underlying3 t1
      obtain ⟨k2, h2, _, w2⟩ := DataW.trod_string Try.underlying9 t2
      obtain ⟨k3, h3, _, w3⟩ := DataW.trod_int (k := .i64) Try.underlying3 t3
      simp only [List.cons.injEq, and_true] at h0 h1 h2 h3
      subst h0 h1 h2 h3
      exact ⟨⟨k0, k1, k2.data.toList, k3⟩, by rw [ba_len]; exact w2, c0, c1, by simpa using c2, c3⟩)
    subst hlen
    refine ⟨some a, cap, l, rfl, fun h => by simp at h, ⟨wcells_length l, fun h0 => ⟨a, rfl, ?_, fun j u hj => ?_⟩⟩, by omega, fun t ht => ?_⟩
    · have h1 := (hp 0 _ (List.getElem?_eq_getElem h0)).2.1
      have := cell_lt h1
      rwa [block_of_add] at this
    · have hj4 : j < l.length * 4 := by
        have := (List.getElem?_eq_some_iff.1 hj).1
        rwa [wcells_length] at this
      have hi4 : j / 4 < l.length := by omega
      have hg := wflat_get l (j / 4) _ (List.getElem?_eq_getElem hi4) (j % 4) (by omega)
      rw [show j / 4 * 4 + j % 4 = j by omega, hj] at hg
      obtain ⟨_, q0, q1, q2, q3⟩ := hp (j / 4) _ (List.getElem?_eq_getElem hi4)
      have hm4 : j % 4 = 0 ∨ j % 4 = 1 ∨ j % 4 = 2 ∨ j % 4 = 3 := by omega
      rcases hm4 with h4 | h4 | h4 | h4
      · rw [h4] at hg; simp [WordL.cells] at hg; rw [show j = j / 4 * 4 by omega, hg]; exact q0
      · rw [h4] at hg; simp [WordL.cells] at hg; rw [show j = j / 4 * 4 + 1 by omega, hg]; exact q1
      · rw [h4] at hg; simp [WordL.cells] at hg; rw [show j = j / 4 * 4 + 2 by omega, hg]; exact q2
      · rw [h4] at hg; simp [WordL.cells] at hg; rw [show j = j / 4 * 4 + 3 by omega, hg]; exact q3
    · obtain ⟨i, hi, rfl⟩ := List.mem_iff_getElem.1 ht
      exact (hp i _ (List.getElem?_eq_getElem hi)).1

/-- Five cells from an address on. -/
def At5 (w : World) (a : Addr) (i : Nat) (cs : List Value) : Prop := cs.length = 5 ∧ ∀ j u, cs[j]? = some u → w.cell? (a.add (i * 5 + j)) = some u
theorem nodes_ok {w : World} {M : Nat → Prop} {a : Addr} : ∀ (l : List NodeL) (i : Nat), (∀ (j : Nat) (n : NodeL), l[j]? = some n → ∃ cs, At5 w a (i + j) cs ∧ NodeOk w M n cs) →
    ∃ kcs, kcs.length = l.length * 5 ∧ (∀ j u, kcs[j]? = some u → w.cell? (a.add (i * 5 + j)) = some u) ∧ NodesOk w M l kcs
  | [], i, _ => ⟨[], rfl, fun j u h => by simp at h, by simp only [NodesOk]⟩
  | n :: r, i, h => by
    obtain ⟨cs, ⟨h1, h2⟩, h3⟩ := h 0 n rfl
    obtain ⟨kcs, k1, k2, k3⟩ := nodes_ok r (i + 1) (fun j m hj => by
      have := h (j + 1) m (by simpa using hj)
      rwa [show i + (j + 1) = i + 1 + j by omega] at this)
    refine ⟨cs ++ kcs, by rw [List.length_append, h1, k1, List.length_cons]; omega, fun j u hj => ?_, by simp only [NodesOk]; exact ⟨cs, kcs, rfl, h3, k3⟩⟩
    by_cases hj5 : j < 5
    · rw [List.getElem?_append_left (by omega)] at hj
      simpa using h2 j u hj
    · rw [List.getElem?_append_right (by omega), h1] at hj
      have := k2 (j - 5) u hj
      rwa [show (i + 1) * 5 + (j - 5) = i * 5 + j by omega] at this
theorem fitNs_of : ∀ (l : List NodeL), (∀ (j : Nat) (n : NodeL), l[j]? = some n → fitN n) → fitNs l
  | [], _ => trivial
  | n :: r, h => ⟨h 0 n rfl, fitNs_of r fun j m hj => h (j + 1) m (by simpa using hj)⟩

theorem open_nodes_fuel {H : Type} {enc : TypeId × Value → H} {w : World} {base : Nat} {spare : Nat → Bool} {held : Bool} : ∀ (N fuel : Nat), fuel < N → ∀ {cs : List Value} {x : DataW H × List MemPlace},
    DataW.trod enc Try.prog w base spare held fuel 23 cs = some x →
    ∃ (A : Option Addr) (c : Nat) (l : List NodeL), cs = [.slice A l.length c] ∧ NilOk A c ∧ ROk w w.heap.size A l ∧ l.length ≤ maxLen ∧ fitNs l
  | 0, fuel, hf, _, _, _ => by omega
  | N + 1, fuel, hf, cs, x, h => by
    rcases open_slice_less Try.underlying23 Try.underlying25 (by kernel_rfl) (by kernel_rfl) h with rfl | ⟨a, len, cap, rfl, hl, hm, hi⟩
    · exact ⟨none, 0, [], rfl, fun _ => rfl, ⟨[], ReadsM.nil _ _ _ _, by simp only [NodesOk]⟩, by simp, trivial⟩
    · obtain ⟨l, hlen, hp⟩ := exists_list len (fun (i : Nat) (n : NodeL) => fitN n ∧ ∃ cs, At5 w a i cs ∧ NodeOk w (· < w.heap.size) n cs) (fun i him => by
        obtain ⟨v0, y0, n0, _, c0, t0⟩ := hi i him 0 _ rfl
        obtain ⟨v1, y1, n1, _, c1, t1⟩ := hi i him 1 _ rfl
        obtain ⟨v2, y2, n2, _, c2, t2⟩ := hi i him 2 _ rfl
        obtain ⟨v3, y3, n3, _, c3, t3⟩ := hi i him 3 _ rfl
        obtain ⟨v4, y4, n4, l4, c4, t4⟩ := hi i him 4 _ rfl
        obtain ⟨k0, h0, _, w0⟩ := DataW.trod_string Try.underlying9 t0
        obtain ⟨k1, h1, _, w1⟩ := DataW.trod_int (k := .i64) Try.underlying3 t1
        obtain ⟨Aw, cw, ws, h2, g1, g2, g3, g4⟩ := open_words t2
        obtain ⟨k3, h3, _⟩ := DataW.trod_bool Try.underlying4 t3
        obtain ⟨Ak, ck, ks, h4, g5, ⟨kcs, g6, g7⟩, g8, g9⟩ := open_nodes_fuel N n4 (by omega) t4
        simp only [List.cons.injEq, and_true] at h0 h1 h2 h3 h4
        subst h0 h1 h2 h3 h4
        refine ⟨.mk k0.data.toList k1 ws k3 ks, ⟨by rw [ba_len]; exact w0, g3, g4, g8, g9⟩, [.string k0, .int .i64 k1, .slice Aw ws.length cw, .bool k3, .slice Ak ks.length ck], ⟨rfl, fun j u hj => ?_⟩, ?_⟩
        · have hj5 : j < 5 := (List.getElem?_eq_some_iff.1 hj).1
          have hm5 : j = 0 ∨ j = 1 ∨ j = 2 ∨ j = 3 ∨ j = 4 := by omega
          rcases hm5 with rfl | rfl | rfl | rfl | rfl <;> (simp only [List.getElem?_cons_zero, List.getElem?_cons_succ, Option.some.injEq] at hj; subst hj; assumption)
        · simp only [NodeOk]
          exact ⟨Aw, cw, Ak, ck, kcs, by simp, g1, g5, g2, g6, g7⟩)
      subst hlen
      obtain ⟨kcs, k1, k2, k3⟩ := nodes_ok l 0 (fun j n hj => by
        have := (hp j n hj).2
        rwa [Nat.zero_add])
      refine ⟨some a, cap, l, rfl, fun h => by simp at h, ⟨kcs, ⟨k1, fun h0 => ⟨a, rfl, ?_, fun j u hj => by simpa using k2 j u hj⟩⟩, k3⟩, by omega, fitNs_of l fun j n hj => (hp j n hj).1⟩
      have hk0 : 0 < kcs.length := by omega
      have := cell_lt (k2 0 _ (List.getElem?_eq_getElem hk0))
      rwa [block_of_add] at this

theorem open_nodes {H : Type} {enc : TypeId × Value → H} {w : World} {base : Nat} {spare : Nat → Bool} {held : Bool} {v : Value} {d : DataW H} {ps : List MemPlace} {r : Reach} {b0 : Nat}
    (hval : Value.okWide Try.prog w r b0 23 v) (hd : DataW.Trod enc Try.prog w base spare held 23 v d ps) :
    ∃ (A : Option Addr) (c : Nat) (l : List NodeL), v = .slice A l.length c ∧ NilOk A c ∧ ROk w w.heap.size A l ∧ l.length ≤ maxLen ∧ fitNs l := by
  obtain ⟨A, n, c, rfl⟩ := okWide_slice Try.underlying23 hval
  obtain ⟨fuel, hf⟩ := hd
  obtain ⟨A', c', l, h1, h2⟩ := open_nodes_fuel (fuel + 1) fuel (by omega) hf
  simp only [Value.cells] at h1
  refine ⟨A', c', l, ?_, h2⟩
  simpa using h1

end Go.Proofs.Ytmiejdbpogggeaa
end
