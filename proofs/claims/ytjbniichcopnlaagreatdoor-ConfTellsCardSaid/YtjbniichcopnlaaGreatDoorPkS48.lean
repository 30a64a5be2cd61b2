/- Layers 7 and 8, the references: Digits, Decimal, text, Join. Then: Layer 10, the reference: the walk of text. Then: Layer 10, the reference: the walks of Print and Canon. -/
import Derived.Test.YtjbniichcopnlaaGreatDoorPkS3
import Derived.Test.YtjbniichcopnlaaGreatDoorPkS34
import Derived.Lib.ItoaNum
import Derived.Test.YtjbniichcopnlaaGreatDoorPkS14
import Derived.Test.YtjbniichcopnlaaGreatDoorPkS17
namespace Go.Proofs.YtjbniichcopnlaaGreatDoor
section
open Go.RowKit
open Go.Lib renaming hid → zh
theorem ret_bs {a b : ByteArray} (h : a = b) : Ending.returned (.string a) = .returned (.string b):=by rw [h]
/-- So many last digits of a number. -/
def digitsL : Nat → Nat → Bytes
  | _,0 => []
  | n,m + 1 => digitsL (n / 10) m ++ [UInt8.ofNat (48 + n % 10)]
theorem digitsL_len : ∀ (m n : Nat),(digitsL n m).length = m
  | 0,_ => rfl
  | m + 1,n => by simp [digitsL,digitsL_len m]
theorem digitsL_dec : ∀ (m n : Nat),Lib.nDigits n = m → digitsL n m = Lib.decDigits n := by
  intro m
  induction m with
  | zero => intro n h;have:=Lib.nDigits_pos n;omega
  | succ m ih =>
    intro n h
    by_cases h10 : n < 10
    · rw [Lib.decDigits_one h10]
      rw [Lib.nDigits_small h10] at h
      have : m = 0:=by omega
      subst this
      simp [digitsL,Nat.mod_eq_of_lt h10]
    · rw [Lib.nDigits_big h10] at h
      rw [digitsL,ih (n / 10) (by omega)]
      conv => rhs;rw [Lib.decDigits,dif_neg h10]
theorem conv_digit (w : World) (x : Nat) : (convert 64 9 (.slice (some ⟨w.heap.size,0,none⟩) 1 1)).run Tryz.prog (w.alloc (.cells #[.int .u8 (48 + (x : Int) % 10)] 5)) =
    .ok (.string ⟨#[UInt8.ofNat (48 + x % 10)]⟩) (w.alloc (.cells #[.int .u8 (48 + (x : Int) % 10)] 5)):=by
  refine run_convert_bytes_back _ _ _ _ ⟨w.heap.size,0,none⟩ 1 [UInt8.ofNat (48 + x % 10)] Tryz.underlying64 (by kernel_rfl) (by kernel_rfl) ?_
  intro j hj
  simp at hj
  subst hj
  simp [Addr.add]
  omega
set_option maxHeartbeats 1000000 in
theorem ref7_Digits (n m : Nat) (w : World) (hn : n ≤ 9223372036854775807) (hm : m ≤ 1000) :
    Calls Tryz.prog 107 #[.int .i64 n, .int .i64 m] w fun e w' => e = .returned (.string ⟨(digitsL n m).toArray⟩) ∧ Below w.heap.size w w':=by
  go_enter Tryz.func107,Tryz.ntmps107
  go_wp2
  go_loopw [0,5,7] (fun a s i wr => ∃ (k x : Nat) (S : Bytes),k ≤ m ∧ x ≤ n ∧ i = .int .i64 k ∧ a = .int .i64 x ∧ s = .string ⟨S.toArray⟩ ∧ S.length = k ∧ Below w.heap.size w wr ∧ digitsL n m = digitsL x (m - k) ++ S) (fun _ _ i _ => m - (intOf i).toNat)
  case atStart => exact ⟨0,n,[],Nat.zero_le _,Nat.le_refl _,rfl,rfl,rfl,rfl,Below.refl _ _,by simp⟩
  case round =>
    obtain ⟨k,x,S,hk,hx,rfl,rfl,rfl,hS,hB,heq⟩:=hrel
    have hbs:=hB.size
    have HE:=zh heq
    clear heq
    by_cases hlt : k < m
    · have hcv := conv_digit wr x
      have hsz : ¬ (9223372036854775807 < 1 + (S.length : Int)):=by omega
      go_wp2
      have hx0 : ((x / 10 : Nat) : Int) = (x : Int) / 10:=by omega
      have hd : m - k = (m - (k + 1)) + 1:=by omega
      refine ⟨⟨k + 1,x / 10,UInt8.ofNat (48 + x % 10) :: S,by omega,by omega,by go_num,by go_num,by rw [ByteArray.mk_append_mk];simp,by simp [hS],hB.alloc hbs _,?_⟩,by simp [intOf];omega⟩
      rw [HE.out,hd,digitsL]
      simp
    · have hkm : k = m := by omega
      have HH:=zh (by rw [HE.out,hkm,Nat.sub_self];rfl : digitsL n m = S)
      go_wp2
      go_ret
      exact ⟨ret_bs (by rw [HH.out]),hB⟩
theorem nDigits_le (n : Nat) (h : n ≤ 9223372036854775807) : Lib.nDigits n ≤ 19 := by
  by_cases h0 : n < 10
  · rw [Lib.nDigits_small h0];omega
  have hk : ∀ (k u : Nat),u < 10 ^ (k + 1) → Lib.nDigits u ≤ k + 1 := by
    intro k
    induction k with
    | zero => intro u hu;rw [Lib.nDigits_small (by omega)];omega
    | succ k ih =>
      intro u hu
      by_cases h0 : u < 10
      · rw [Lib.nDigits_small h0];omega
      · rw [Lib.nDigits_big h0]
        have:=ih (u / 10) (by rw [Nat.pow_succ] at hu;omega)
        omega
  exact hk 18 n (by omega)
set_option maxHeartbeats 1000000 in
theorem ref8_Decimal (n : Nat) (w : World) (hn : n ≤ 9223372036854775807) :
    Calls Tryz.prog 82 #[.int .i64 n] w fun e w' => e = .returned (.string ⟨(Lib.itoa n).toArray⟩) ∧ Below w.heap.size w w':=by
  have hnd:=nDigits_le n hn
  have hi : Lib.itoa n = digitsL n (Lib.nDigits n) := by
    rw [digitsL_dec _ _ rfl,Lib.itoa,if_neg (by omega),Int.toNat_natCast]
  have HI:=zh hi
  have HD:=zh (fun W => ref7_Digits n (Lib.nDigits n) W hn (by omega))
  clear hi
  go_enter Tryz.func82,Tryz.ntmps82
  go_wp2
  go_loopw [3,4] (fun c x wr => ∃ k m : Nat,c = .int .i64 k ∧ x = .int .i64 m ∧ m ≤ n ∧ wr = w ∧ Lib.nDigits n + 1 = k + Lib.nDigits m) (fun _ x _ => (intOf x).toNat)
  case atStart => exact ⟨1,n,rfl,rfl,Nat.le_refl _,rfl,by omega⟩
  case round =>
    obtain ⟨k,m,rfl,rfl,hm,rfl,hk⟩:=hrel
    have hkk : k ≤ 19:=by have:=Lib.nDigits_pos m;omega
    by_cases h10 : 10 ≤ m
    · have hb := Lib.nDigits_big (u := m) (by omega)
      have HK:=zh hk
      have HB:=zh hb
      clear hk hb
      go_wp2
      exact ⟨⟨k + 1,m / 10,by go_num,by go_num,by omega,trivial,by have:=HK.out;have:=HB.out;omega⟩,by simp [intOf];omega⟩
    · have hb := Lib.nDigits_small (u := m) (by omega)
      have hkn : k = Lib.nDigits n:=by omega
      have HK:=zh hkn
      clear hk hb hkn
      go_wp2_with fail
      rw [HK.out]
      refine (HD.out _).mono ?_
      rintro e w1 ⟨rfl,hb1⟩
      go_wp2
      go_ret
      exact ⟨ret_bs (by rw [HI.out]),hb1⟩
/-- The reference's text of a token. -/
def textR (t : Tok) : Bytes × Bool:=if t.kind = 2 then (Lib.itoa (max t.n 0),(textL t).2) else textL t
theorem str_eql (S : Bytes) (w : World) : (binOp .eql 9 (.string ⟨S.toArray⟩) (.string ⟨#[]⟩)).run Tryz.prog w = .ok (.bool (decide (S = []))) w := by
  cases S <;> simp [go_sem]
end
section
set_option linter.unusedVariables false
set_option linter.unusedSimpArgs false
open Go.RowKit
open Go.Joins renaming cell_of_block → zb, unfrozen_of_block → zu
open Go.Lib renaming hid → zh
theorem ret_si {a b : ByteArray} {x y : Int} (h : a = b) (h' : x = y) : Ending.returned (.tuple #[.string a, .int .i64 x]) = .returned (.tuple #[.string b, .int .i64 y]):=by rw [h,h']
theorem ba_cat (S T : ByteArray) : (S ++ T).data.toList = S.data.toList ++ T.data.toList:=by rw [ByteArray.data_append];simp
theorem joinTail_snoc : ∀ (xs : List Bytes) (x : Bytes),Lib.joinTail [32] (xs ++ [x]) = Lib.joinTail [32] xs ++ (32 :: x)
  | [],x => by simp [Lib.joinTail]
  | y :: xs,x => by
    rw [List.cons_append,joinTail_cons,joinTail_cons,joinTail_snoc xs x]
    simp
theorem ba_size (S : ByteArray) (l : Bytes) (h : S.data.toList = l) : S.size = l.length:=by rw [← ba_len,h]
set_option maxRecDepth 100000 in
set_option maxHeartbeats 4000000 in
theorem ref10_text : ∀ (N : Nat) (l : List NodeL) (d : Nat) (A : Option Addr) (c : Nat) (w : World) (B : Nat),cntL l < N → cntL l ≤ 100000 → d ≤ 6 → checkL d l = 0 → B ≤ w.heap.size → ROk w B A l →
    (printL d l).length ≤ 1000000000 → (flatL l).length ≤ 100000000 →
    Calls Tryz.prog 52 #[.slice A l.length c, .int .i64 d] w fun e w' => e = .returned (.tuple #[.string ⟨(printL d l).toArray⟩, .int .i64 (flatL l).length]) ∧ Below w.heap.size w w':=by
  intro N
  induction N with
  | zero => intro l d A c w B h;omega
  | succ N ih =>
    intro l d A c w B hN hsm hd hchk hB hok hlen hfl
    have hlenl:=cntL_len l
    have HOK:=zh hok
    have HIH:=zh ih
    have HCK:=zh hchk
    have HLN:=zh hlen
    have HFL:=zh hfl
    clear ih hok hchk hlen hfl
    go_enter Tryz.func52,Tryz.ntmps52
    go_wp2_with fail
    go_loop [8,16] (fun mv iv => ∃ (M : ByteArray) (k : Nat),mv = .string M ∧ iv = .int .i64 k ∧ k ≤ d ∧ M.data.toList = List.replicate (2 * k) 32 ∧ M.size = 2 * k) (fun _ iv => d - (intOf iv).toNat)
    case atStart => exact ⟨⟨#[]⟩,0,rfl,rfl,Nat.zero_le _,rfl,rfl⟩
    case round =>
      obtain ⟨M,k,rfl,rfl,hk,hM,hMs⟩:=hrel
      by_cases hkd : k < d
      · have HM := zh hM
        have HMS:=zh hMs
        have hMb : M.size ≤ 12:=by omega
        have lk : (k : Int) < d:=by omega
        have w1f : IntKind.i64.wrap ((k : Int) + 1) = (k : Int) + 1:=by rw [IntKind.wrap_i64];omega
        clear hM hMs
        go_wp2_with fail
        have e1 : (M ++ ⟨#[32,32]⟩ : ByteArray).data.toList = List.replicate (2 * (k + 1)) 32 := by
          rw [ba_cat,HM.out,show 2 * (k + 1) = 2 * k + 1 + 1 by omega,List.replicate_succ',List.replicate_succ']
          simp
        exact ⟨⟨_,k + 1,rfl,by go_num,by omega,e1,by rw [ba_size _ _ e1];simp⟩,by simp [intOf];omega⟩
      · have hkk : k = d := by omega
        subst hkk
        have HM:=zh hM
        have hMb : M.size ≤ 12:=by omega
        have lk : ¬ (k : Int) < k:=by omega
        have HMS:=zh (show M.size = 2 * k from hMs)
        clear hM hMs
        go_wp2_with fail
        go_loopw [6,7,23] (fun sv mv iv wr => ∃ (S : ByteArray) (q : Nat),sv = .string S ∧ mv = .int .i64 ((flatL (l.take q)).length : Nat) ∧ iv = .int .i64 q ∧ q ≤ l.length ∧ S.data.toList = printL k (l.take q) ∧ Below w.heap.size w wr) (fun _ _ iv _ => l.length - (intOf iv).toNat)
        case atStart => exact ⟨⟨#[]⟩,0,rfl,by simp [flatL],rfl,Nat.zero_le _,by simp [printL],Below.refl _ _⟩
        case round =>
          obtain ⟨S,q,rfl,rfl,rfl,hq,hS,hbw⟩:=hrel
          have hpl0:=print_le k l q
          have hfl0:=flat_le l q
          have hln:=HLN.out
          have hfn0:=HFL.out
          have hSs : S.size ≤ 1000000000:=by rw [ba_size S _ hS];omega
          by_cases hlt : q < l.length
          · obtain ⟨n,hn⟩ : ∃ n,l[q]? = some n := ⟨_,List.getElem?_eq_getElem hlt⟩
            have hbs:=hbw.size
            obtain ⟨ad,Aw,cw,Ak,ck,hA,hadB,c0,c1,c2,c3,c4,hw,hkk⟩:=(HOK.out.below (hbw.mono hB)).at q n hn
            subst hA
            obtain ⟨p1,p2,p3,p4,p5,p6⟩:=check_at l k q n HCK.out hn
            have hc1:=cntL_take_mem l q n hn
            have hc2:=cntN_eq n
            have hpt:=print_take k l q n hn
            have hft:=flat_take l q n hn
            have hpl:=print_le k l (q + 1)
            have hfl:=flat_le l (q + 1)
            rw [hpt,List.length_append] at hpl
            rw [hft] at hfl
            have hfn:=flatN_len n
            have hpn:=printN_eq k n
            have hn16:=name16 n.name p3
            obtain ⟨wo,hwo⟩ : ∃ wo,wo = wr:=⟨_,rfl⟩
            subst hwo
            obtain ⟨NM,hNM⟩ : ∃ NM : ByteArray,NM = ⟨n.name.toArray⟩:=⟨_,rfl⟩
            have hNMl : NM.data.toList = n.name:=by rw [hNM]
            have hNMs : NM.size ≤ 16:=by rw [ba_size NM _ hNMl];exact hn16
            rw [← hNM] at c0
            have hblk:=heap_alloc_new wo (.cells #[.string NM, .int .i64 n.pos, .slice Aw n.words.length cw, .bool n.block, .slice Ak n.kids.length ck] 44)
            have hbA:=(Below.refl wo.heap.size wo).alloc (Nat.le_refl _) (.cells #[.string NM, .int .i64 n.pos, .slice Aw n.words.length cw, .bool n.block, .slice Ak n.kids.length ck] 44)
            have hSl : S.size = (printL k (l.take q)).length:=ba_size S _ hS
            have HS:=zh hS
            have HNL:=zh hNMl
            have HBW:=zh hbw
            have HWD:=zh hw
            have HKK:=zh hkk
            have HBLK:=zh hblk
            have HBA:=zh hbA
            have HP:=zh (And.intro p2 (And.intro p3 (And.intro p4 (And.intro p5 p6))))
            have HPT:=zh hpt
            have HFT:=zh hft
            have HPN:=zh hpn
            have HFN:=zh hfn
            have HSL:=zh hSl
            have lk : (q : Int) < l.length:=by omega
            have lk0 : (0 : Int) ≤ q:=by omega
            have w1f : IntKind.i64.wrap ((q : Int) + 1) = (q : Int) + 1:=by rw [IntKind.wrap_i64];omega
            have hwl : n.words.length ≤ 8:=p1
            have hfb : (flatL (l.take q)).length ≤ 100000000:=by omega
            have HPL:=zh (And.intro hpl (And.intro hfl (And.intro hln hfn0)))
            clear hS hNM hNMl hbw hw hkk hblk hbA p1 p2 p3 p4 p5 p6 hpt hft hpn hfn hSl hpl hfl hln hfn0 hpl0 hfl0
            go_wp2_with fail
            obtain ⟨nb,hnb⟩ : ∃ g,g = wo.heap.size:=⟨_,rfl⟩
            generalize hW1 : World.alloc wo _ = W1
            have hb1 : Below nb wo W1:=by rw [← hW1,hnb];exact HBA.out
            have hn1 : W1.heap[nb]? = some (.cells #[.string NM, .int .i64 n.pos, .slice Aw n.words.length cw, .bool n.block, .slice Ak n.kids.length ck] 44 (0,0)):=by rw [← hW1,hnb];exact HBLK.out
            have hz1 : nb < W1.heap.size:=(Array.getElem?_eq_some_iff.1 hn1).1
            rw [← hnb]
            have hBnb : B ≤ nb:=by omega
            have hwnb : w.heap.size ≤ nb:=by omega
            have HB1:=zh hb1
            have HN1:=zh hn1
            have HNB:=zh hnb
            clear hW1 hb1 hn1 hnb
            obtain ⟨pre,hpre⟩ : ∃ pre : Bytes,pre = printL k (l.take q) ++ (List.replicate (2 * k) 32 ++ n.name):=⟨_,rfl⟩
            have hS0 : (S ++ (M ++ NM)).data.toList = pre ++ Lib.joinTail [32] ((n.words.take 0).map wordB) := by
              rw [ba_cat,ba_cat,HS.out,HM.out,HNL.out,hpre];simp [Lib.joinTail]
            have hprel : pre.length ≤ 1000000028 := by
              rw [hpre,List.length_append,List.length_append,List.length_replicate,← HSL.out,← ba_len NM,HNL.out] at *
              omega
            have HPRE:=zh hpre
            have HS0:=zh hS0
            clear hpre hS0
            go_loopw [6,36] (fun sv jv wx => ∃ (S2 : ByteArray) (t : Nat),sv = .string S2 ∧ jv = .int .i64 t ∧ t ≤ n.words.length ∧ S2.data.toList = pre ++ Lib.joinTail [32] ((n.words.take t).map wordB) ∧ Below (nb + 1) W1 wx) (fun _ jv _ => n.words.length - (intOf jv).toNat)
            case atStart => exact ⟨_,0,rfl,rfl,Nat.zero_le _,HS0.out,Below.refl _ _⟩
            case round =>
              obtain ⟨S2,t,rfl,rfl,ht,hS2,hbx⟩:=hrel
              have hbB : Below B wo wr:=(HB1.out.mono hBnb).trans (hbx.mono (by omega))
              have hallt : (n.words.take t).all wordOk = true := by
                rw [List.all_eq_true]
                exact fun x hx => List.all_eq_true.1 HP.out.1 x (List.mem_of_mem_take hx)
              have hjl:=joinTail_words (n.words.take t) hallt
              have hlt8 : (n.words.take t).length ≤ 8:=by rw [List.length_take];omega
              have hS2b : S2.size ≤ 1000000200:=by rw [ba_size S2 _ hS2,List.length_append];omega
              by_cases hlt2 : t < n.words.length
              · obtain ⟨u,hu⟩ : ∃ u,n.words[t]? = some u := ⟨_,List.getElem?_eq_getElem hlt2⟩
                obtain ⟨aw,hAw,hawB,d0,d1,d2,d3⟩:=word_cells (HWD.out.keep (w':=wr) (fun _ h => h) (fun p hp => hbB.cell hp)) t u hu
                subst hAw
                have hok : wordOk u = true:=List.all_eq_true.1 HP.out.1 u (List.mem_of_getElem? hu)
                have hul:=wordB_len u hok
                have htk : Lib.joinTail [32] ((n.words.take (t + 1)).map wordB) = Lib.joinTail [32] ((n.words.take t).map wordB) ++ (32 :: wordB u) := by
                  rw [List.take_add_one,hu,List.map_append]
                  exact joinTail_snoc _ _
                have HTK:=zh htk
                have hlk : (t : Int) < n.words.length:=by omega
                have hlk0 : (0 : Int) ≤ t:=by omega
                have w2f : IntKind.i64.wrap ((t : Int) + 1) = (t : Int) + 1:=by rw [IntKind.wrap_i64];omega
                have HS2:=zh hS2
                have HBX:=zh hbx
                have hzx : nb + 1 ≤ wr.heap.size:=by have:=hbx.size;omega
                clear htk hS2 hbx hbB hallt hjl hlt8 hu
                obtain ⟨nu,un,us,up⟩:=u
                obtain ⟨US,hUS⟩ : ∃ US : ByteArray,US = ⟨us.toArray⟩:=⟨_,rfl⟩
                have hUSl : US.data.toList = us:=by rw [hUS]
                simp only at d0 d1 d2 d3
                rw [← hUS] at d2
                cases nu
                · have hwb : wordB ⟨false,un,us,up⟩ = us := rfl
                  rw [hwb] at HTK hul
                  have hUSs : US.size ≤ 16:=by rw [ba_size US _ hUSl];exact hul
                  have HUS:=zh hUSl
                  have hb2:=(Below.refl wr.heap.size wr).alloc (Nat.le_refl _) (.cells #[.bool false, .int .i64 un, .string US, .int .i64 up] 61)
                  have HB2:=zh (HBX.out.trans (hb2.mono hzx))
                  clear hb2 hUS hUSl hok
                  go_wp2_with fail
                  refine ⟨⟨_,t + 1,rfl,by go_num,by omega,?_,HB2.out⟩,by simp [intOf];omega⟩
                  rw [ba_cat,ba_cat,HS2.out,HUS.out,HTK.out]
                  simp
                · have hwb : wordB ⟨true,un,us,up⟩ = Lib.itoa un := rfl
                  rw [hwb] at HTK hul
                  have hrng : us = [] ∧ 0 ≤ un ∧ un ≤ 999999999 := by
                    unfold wordOk at hok
                    simp only [if_true,Bool.and_eq_true,decide_eq_true_eq] at hok
                    exact ⟨hok.1.1,hok.1.2,hok.2⟩
                  obtain ⟨hu0,hr1,hr2⟩:=hrng
                  obtain ⟨v,rfl⟩:=Int.eq_ofNat_of_zero_le hr1
                  have hUSs : US.size = 0:=by rw [ba_size US _ hUSl,hu0];rfl
                  have hUSs2 : US.size ≤ 16:=by omega
                  have HUS:=zh (show US.data.toList = [] by rw [hUSl,hu0])
                  have hb2:=(Below.refl wr.heap.size wr).alloc (Nat.le_refl _) (.cells #[.bool true, .int .i64 v, .string US, .int .i64 up] 61)
                  have HB2:=zh (HBX.out.trans (hb2.mono hzx))
                  have HD:=zh (fun W => ref8_Decimal v W (by omega))
                  obtain ⟨X,hX⟩ : ∃ X : ByteArray,X = ⟨(Lib.itoa v).toArray⟩:=⟨_,rfl⟩
                  rw [← hX] at HD
                  have hXl : X.data.toList = Lib.itoa v:=by rw [hX]
                  have hXs : X.size ≤ 16:=by rw [ba_size X _ hXl];exact hul
                  have HX:=zh hXl
                  clear hb2 hUS hUSl hUSs hok hu0 hX hXl hul hwb
                  go_wp2_with fail
                  refine (HD.out _).mono ?_
                  rintro e1 w2 ⟨rfl,hb3⟩
                  have HB3:=zh (HB2.out.trans (hb3.mono (by simp;omega)))
                  clear hb3
                  go_wp2_with fail
                  refine ⟨⟨_,t + 1,rfl,by go_num,by omega,?_,HB3.out⟩,by simp [intOf];omega⟩
                  rw [ba_cat,ba_cat,ba_cat,HS2.out,HUS.out,HX.out,HTK.out]
                  simp
              · have htl : t = n.words.length := by omega
                have htt : n.words.take t = n.words:=by rw [htl,List.take_length]
                rw [htt] at hS2
                have hlk : ¬ (t : Int) < n.words.length:=by omega
                have hblk : wr.heap[nb]? = _:=(hbx.block nb (by omega)).trans HN1.out
                have e2:=zb hblk 2
                have e3:=zb hblk 3
                have e4:=zb hblk 4
                have HBX:=zh (HBW.out.trans ((HB1.out.mono hwnb).trans (hbx.mono (by omega))))
                have HBB:=zh hbB
                have HS2:=zh hS2
                have hzx : w.heap.size ≤ wr.heap.size:=HBX.out.size
                have hBx : B ≤ wr.heap.size:=by omega
                have hfn:=HFN.out
                have hpl:=HPL.out
                have hpnl:=HPN.out
                have HTL:=zh htl
                clear hS2 hbx hbB hallt hjl hlt8 hblk htt htl
                cases hbk : n.block with
                | false =>
                  rw [hbk] at e3 hfn
                  rw [hbk,if_neg (by decide)] at hpnl
                  have HPN2:=zh hpnl
                  have HFN2:=zh (show (flatL (l.take (q + 1))).length = (flatL (l.take q)).length + (2 + n.words.length) by rw [HFT.out,hfn];simp;omega)
                  have hfb2 : (flatL (l.take q)).length + (2 + n.words.length) ≤ 200000000:=by omega
                  clear hfn hpl hpnl hbk
                  go_wp2_with fail
                  refine ⟨⟨_,q + 1,rfl,?_,by go_num,by omega,?_,HBX.out⟩,by simp [intOf];omega⟩
                  · rw [HFN2.out];go_num
                  · rw [ba_cat,HS2.out,HPT.out,HPN2.out,HPRE.out,lineB,Lib.join_cons]
                    simp
                | true =>
                  rw [hbk] at e3 hfn
                  rw [hbk,if_pos rfl] at hpnl
                  rw [if_pos rfl] at hfn
                  have hk6 : k ≠ 6:=HP.out.2.2.2.1 hbk
                  have hplen : (printN k n).length = (lineB k (n.name :: n.words.map wordB) [32,123]).length + ((printL (k + 1) n.kids).length + (lineB k [] [125]).length):=by rw [hpnl,List.length_append,List.length_append]
                  have HPN2:=zh hpnl
                  have HFN2:=zh (show (flatL (l.take (q + 1))).length = (flatL (l.take q)).length + (2 + n.words.length) + (1 + (flatL n.kids).length) by rw [HFT.out,hfn];omega)
                  have hfb2 : (flatL (l.take q)).length + (2 + n.words.length) + (1 + (flatL n.kids).length) ≤ 200000000:=by omega
                  have hI:=HIH.out n.kids (k + 1) Ak ck wr B (by omega) (by omega) (by omega) HP.out.2.2.2.2 hBx (HKK.out.below HBB.out) (by omega) (by omega)
                  obtain ⟨IN,hIN⟩ : ∃ IN : ByteArray,IN = ⟨(printL (k + 1) n.kids).toArray⟩:=⟨_,rfl⟩
                  have hINl : IN.data.toList = printL (k + 1) n.kids:=by rw [hIN]
                  have hINs : IN.size ≤ 1000000000:=by rw [ba_size IN _ hINl];omega
                  rw [← hIN] at hI
                  have HI:=zh (show Calls Tryz.prog 52 #[.slice Ak n.kids.length ck, .int .i64 ((k : Int) + 1)] wr fun e w' => e = .returned (.tuple #[.string IN, .int .i64 (flatL n.kids).length]) ∧ Below wr.heap.size wr w' from hI)
                  have HIN:=zh hINl
                  have w3f : IntKind.i64.wrap ((k : Int) + 1) = (k : Int) + 1:=by rw [IntKind.wrap_i64];omega
                  have hfk : (flatL n.kids).length ≤ 100000000:=by omega
                  clear hfn hpl hpnl hbk hplen hI hIN hINl
                  go_wp2_with fail
                  refine HI.out.mono ?_
                  rintro e1 w5 ⟨rfl,hb5⟩
                  have HB5:=zh (HBX.out.trans (hb5.mono hzx))
                  clear hb5
                  go_wp2_with fail
                  refine ⟨⟨_,q + 1,rfl,?_,by go_num,by omega,?_,HB5.out⟩,by simp [intOf];omega⟩
                  · rw [HFN2.out];go_num
                  · rw [ba_cat,ba_cat,ba_cat,ba_cat,HS2.out,HIN.out,HM.out,HPT.out,HPN2.out,HPRE.out,lineB,lineB,Lib.join_cons,Lib.join_nil]
                    simp
          · have hql : q = l.length := by omega
            have lk : ¬ (q : Int) < l.length:=by omega
            have HX:=zh (show S.data.toList = printL k l by rw [hS,hql,List.take_length])
            have HY:=zh (show (flatL (l.take q)).length = (flatL l).length by rw [hql,List.take_length])
            have HBW:=zh hbw
            clear hS hbw hql hln hfn0 hpl0 hfl0
            go_wp2_with fail
            go_ret2
            exact ⟨ret_si (ba_ext (by rw [HX.out])) (by rw [HY.out]),HBW.out⟩
end
section
set_option linter.unusedVariables false
set_option linter.unusedSimpArgs false
open Go.RowKit
open Go.Lib renaming hid → zh
set_option maxRecDepth 100000 in
set_option maxHeartbeats 2000000 in
theorem ref10_Print (l : List NodeL) (A : Option Addr) (c : Nat) (w : World) (B : Nat) (hB : B ≤ w.heap.size) (hsm : cntL l ≤ 100000) (hok : ROk w B A l) (hfit : fitNs l) :
    Calls Tryz.prog 24 #[.slice A l.length c] w fun e w' => e = .returned (.tuple #[.string ⟨(layL l).1.toArray⟩, .int .i64 (layL l).2]) ∧ Below w.heap.size w w':=by
  have HC:=zh (ref9_Check l A c w B hsm hB hok hfit)
  have HOK:=zh hok
  clear hfit hok
  by_cases hck : checkL 0 l = 0
  · have hps := printL_small l 0 hck (by omega)
    have hfs:=flat_small l
    have HCK:=zh hck
    rw [hck] at HC
    have HLY:=zh (show layL l = if 8192 < (flatL l).length ∨ 65536 < (printL 0 l).length then ([],6) else (printL 0 l,0) by unfold layL;rw [if_neg (by simp [hck])])
    have HTX:=zh (fun W (hz : B ≤ W.heap.size) (h : ROk W B A l) => ref10_text (cntL l + 1) l 0 A c W B (by omega) hsm (by omega) hck hz h (by omega) (by omega))
    obtain ⟨ST,hST⟩ : ∃ ST : ByteArray,ST = ⟨(printL 0 l).toArray⟩:=⟨_,rfl⟩
    rw [← hST] at HTX
    have hSTs : ST.size = (printL 0 l).length:=by rw [hST];simp [← ba_len]
    have HST:=zh hST
    have hfb : (flatL l).length ≤ 300000:=by omega
    have HSS:=zh hSTs
    clear hck hps hST hSTs
    go_enter Tryz.func24,Tryz.ntmps24
    go_wp2_with fail
    refine HC.out.mono ?_
    rintro e1 w1 ⟨rfl,hb1⟩
    have hz1 : B ≤ w1.heap.size:=Nat.le_trans hB hb1.size
    have HT1:=zh (HTX.out w1 hz1 (HOK.out.below (hb1.mono hB)))
    have HB1:=zh hb1
    clear hb1
    go_wp2_with fail
    refine HT1.out.mono ?_
    rintro e2 w2 ⟨rfl,hb2⟩
    have HB2:=zh (HB1.out.trans (hb2.mono HB1.out.size))
    clear hb2
    by_cases h8 : 8192 < (flatL l).length
    · have HR := zh (show layL l = ([],6) by rw [HLY.out,if_pos (Or.inl h8)])
      have h8' : (8192 : Int) < (flatL l).length:=by omega
      go_wp2_with fail
      go_ret2
      exact ⟨by rw [HR.out];rfl,HB2.out⟩
    · have h8' : ¬ (8192 : Int) < (flatL l).length := by omega
      by_cases h6 : 65536 < (printL 0 l).length
      · have HR := zh (show layL l = ([],6) by rw [HLY.out,if_pos (Or.inr h6)])
        have h6' : (65536 : Int) < ST.size:=by have:=HSS.out;omega
        go_wp2_with fail
        go_ret2
        exact ⟨by rw [HR.out];rfl,HB2.out⟩
      · have HR := zh (show layL l = (printL 0 l,0) by rw [HLY.out,if_neg (by omega)])
        have h6' : ¬ (65536 : Int) < ST.size:=by have:=HSS.out;omega
        go_wp2_with fail
        go_ret2
        exact ⟨by rw [HR.out,HST.out];rfl,HB2.out⟩
  · have HR := zh (show layL l = ([],checkL 0 l) by unfold layL; rw [if_pos hck])
    have hne : (checkL 0 l == 0) = false:=beq_false_of_ne hck
    generalize checkL 0 l = x at *
    have HX:=zh hck
    clear hck
    go_enter Tryz.func24,Tryz.ntmps24
    go_wp2_with fail
    refine HC.out.mono ?_
    rintro e1 w1 ⟨rfl,hb1⟩
    have HB1:=zh hb1
    clear hb1
    go_wp2_with fail
    go_ret2
    exact ⟨by rw [HR.out];rfl,HB1.out⟩
end
end Go.Proofs.YtjbniichcopnlaaGreatDoor
