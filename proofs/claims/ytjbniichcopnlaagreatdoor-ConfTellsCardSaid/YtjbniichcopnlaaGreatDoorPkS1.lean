/- Layer 8 (lex): the walks of the program's letter, digit, inner, run, sign, number. Then: Laws over any program: a string as bytes; small facts on worlds. Then: Layer 8 (lex): the walks of the program's sign, number. Then: Layer 8 (lex): the walks of the program's token, free, Name. -/
import Derived.Test.YtjbniichcopnlaaGreatDoorProg
import Derived.Test.YtjbniichcopnlaaGreatDoorPkS0
import Derived.WalkKit
import Derived.WalkSpells
import Derived.WalkLawsBesides
import Derived.Lib.Hide
import Derived.Below
import Derived.Lib.ConvBytes
namespace Go.Proofs.YtjbniichcopnlaaGreatDoor
section
open Go.RowKit
open Go.Lib renaming hid → zh
theorem ret_bool {a b : Bool} (h : a = b) : Ending.returned (.bool a) = .returned (.bool b):=by rw [h]
theorem val_int {k : IntKind} {a b : Int} (h : a = b) : Value.int k a = .int k b:=by rw [h]
theorem ret_int {k : IntKind} {a b : Int} (h : a = b) : Ending.returned (.int k a) = .returned (.int k b):=by rw [h]
set_option maxHeartbeats 400000 in
theorem lex_letter (c : UInt8) (w : World) :
    Calls Tryz.prog 64 #[.int .u8 c.toNat] w fun e w' => e = .returned (.bool (isLetter c)) ∧ w = w':=by
  go_enter Tryz.func64,Tryz.ntmps64
  go_wp2
  all_goals (go_ret;exact ⟨ret_bool (by rw [Bool.eq_iff_iff,isLetter_iff];simp;omega),rfl⟩)
set_option maxHeartbeats 400000 in
theorem lex_digit (c : UInt8) (w : World) :
    Calls Tryz.prog 96 #[.int .u8 c.toNat] w fun e w' => e = .returned (.bool (isDigit c)) ∧ w = w':=by
  go_enter Tryz.func96,Tryz.ntmps96
  go_wp2
  all_goals (go_ret;exact ⟨ret_bool (by rw [Bool.eq_iff_iff,isDigit_iff];simp;omega),rfl⟩)
theorem isInner_eq (c : UInt8) : isInner c = (isLetter c || isDigit c || ((c.toNat : Int) == 45)) := by
  unfold isInner;rw [u8_eq'];rfl
set_option maxHeartbeats 400000 in
theorem lex_inner (c : UInt8) (w : World) :
    Calls Tryz.prog 66 #[.int .u8 c.toNat] w fun e w' => e = .returned (.bool (isInner c)) ∧ w = w':=by
  go_enter Tryz.func66,Tryz.ntmps66
  go_wp2_with (first | (go_at_call 64;refine (lex_letter _ _).mono ?_;rintro e w' ⟨rfl,rfl⟩) | (go_at_call 96;refine (lex_digit _ _).mono ?_;rintro e w' ⟨rfl,rfl⟩))
  all_goals (go_ret;exact ⟨ret_bool (by simp [isInner_eq, *]),rfl⟩)
set_option maxHeartbeats 400000 in
theorem lex_free1 (c : UInt8) (w : World) :
    Calls Tryz.prog 101 #[.int .u8 c.toNat] w fun e w' => e = .returned (.bool (notEol c)) ∧ w = w':=by
  go_enter Tryz.func101,Tryz.ntmps101
  go_wp2
  all_goals (go_ret;exact ⟨ret_bool (by simp [notEol,bne,u8_eq']),rfl⟩)
set_option maxHeartbeats 400000 in
theorem lex_run (s : ByteArray) (f : FuncId) (p : UInt8 → Bool) (w : World) (hs : s.size ≤ maxLen)
   (hf : ∀ a W,Sem.run Tryz.prog (callFunc f a) W = .ok (.enter f a) W)
   (hp : ∀ (c : UInt8) W,Calls Tryz.prog f #[.int .u8 c.toNat] W fun e w' => e = .returned (.bool (p c)) ∧ W = w') :
    Calls Tryz.prog 65 #[.string s, .func (.func f) #[] #[]] w fun e w' => e = .returned (.int .i64 (runL p s.data.toList)) ∧ w = w':=by
  unfold maxLen at hs
  have HP:=zh hp
  clear hp
  go_enter Tryz.func65,Tryz.ntmps65
  go_wp2
  go_loop [5] (fun i => ∃ k : Nat,k ≤ s.size ∧ i = .int .i64 k ∧ k ≤ runL p s.data.toList) (fun i => s.size - (intOf i).toNat)
  case atStart => exact ⟨0,Nat.zero_le _,rfl,Nat.zero_le _⟩
  case round =>
    obtain ⟨k,hk,rfl,hkr⟩:=hrel
    by_cases hlt : k < s.size
    · have hst := runL_ba p s k hlt hkr
      have HS:=zh hst
      clear hst
      go_wp2_with fail
      refine (HP.out _ _).mono ?_;rintro e w' ⟨rfl,rfl⟩
      go_wp2
      · go_round
        case rel => exact ⟨k + 1,by omega,by go_num,HS.out.1 ‹_›⟩
        case measure => simp [intOf];omega
      · go_ret
        exact ⟨by rw [HS.out.2 (by simpa using ‹_›)];rfl,rfl⟩
    · have hle := runL_le p s.data.toList
      rw [ba_len] at hle
      have hkk : runL p s.data.toList = k:=by omega
      have HK:=zh hkk
      clear hkk hle
      go_wp2_with fail
      go_ret
      exact ⟨by rw [HK.out];rfl,rfl⟩
theorem callFunc_inner (a : Array Value) (W : World) : Sem.run Tryz.prog (callFunc 66 a) W = .ok (.enter 66 a) W:=by kernel_rfl
theorem callFunc_digit (a : Array Value) (W : World) : Sem.run Tryz.prog (callFunc 96 a) W = .ok (.enter 96 a) W:=by kernel_rfl
theorem callFunc_free1 (a : Array Value) (W : World) : Sem.run Tryz.prog (callFunc 101 a) W = .ok (.enter 101 a) W:=by kernel_rfl
theorem lex_run_inner (s : ByteArray) (w : World) (hs : s.size ≤ maxLen) :
    Calls Tryz.prog 65 #[.string s, .func (.func 66) #[] #[]] w fun e w' => e = .returned (.int .i64 (runL isInner s.data.toList)) ∧ w = w' :=
  lex_run s _ _ w hs callFunc_inner lex_inner
theorem lex_run_digit (s : ByteArray) (w : World) (hs : s.size ≤ maxLen) :
    Calls Tryz.prog 65 #[.string s, .func (.func 96) #[] #[]] w fun e w' => e = .returned (.int .i64 (runL isDigit s.data.toList)) ∧ w = w' :=
  lex_run s _ _ w hs callFunc_digit lex_digit
theorem lex_run_eol (s : ByteArray) (w : World) (hs : s.size ≤ maxLen) :
    Calls Tryz.prog 65 #[.string s, .func (.func 101) #[] #[]] w fun e w' => e = .returned (.int .i64 (runL notEol s.data.toList)) ∧ w = w' :=
  lex_run s _ _ w hs callFunc_free1 lex_free1
end
section
open Go.RowKit
theorem conv_bytes {P : Program} (w : World) (src dst e : TypeId) (s : ByteArray) (hs : P.underlying src = some .string) (hd : P.underlying dst = some (.slice e)) (he : P.underlying e = some (.int .u8)) :
    ∃ cap W,(convert src dst (.string s)).run P w = .ok (.slice (some ⟨w.heap.size,0,none⟩) s.size cap) W ∧ Below w.heap.size w W ∧
      ∀ (j : Nat) (h : j < s.size),W.cell? ⟨w.heap.size,j,none⟩ = some (.int .u8 (s[j]'h).toNat):=by
  refine ⟨_,_,Lib.run_convert_string_bytes w src dst e s hs hd he,⟨?_,?_,?_,?_,?_⟩,?_⟩
  · simp [Lib.bytesWorld,World.freeze,World.alloc,World.drew,-World.alloc_eq,-World.drew_eq]
  · simp [Lib.bytesWorld,World.freeze,World.alloc,World.drew,-World.alloc_eq,-World.drew_eq]
  · simp [Lib.bytesWorld,World.freeze,World.alloc,World.drew,-World.alloc_eq,-World.drew_eq]
  · rw [Lib.bytesWorld_size];omega
  · intro k hk;exact Lib.bytesWorld_at_old w e s k hk
  · intro j h
    rw [Lib.bytesWorld_cell w e s j h]
    have : s.data.toList.getD j 0 = s[j] := by
      rw [List.getD,List.getElem?_eq_getElem (by simpa using h)];rfl
    rw [this]
/-- What a contract that ends in 'Below' gives of what was there. -/
theorem bcell {W w1 : World} (hb : Below W.heap.size W w1) : (∀ b o,b < W.heap.size → w1.cell? ⟨b,o,none⟩ = W.cell? ⟨b,o,none⟩) ∧ (∀ b o,b < W.heap.size → w1.frozen? ⟨b,o,none⟩ = W.frozen? ⟨b,o,none⟩) :=
  ⟨fun b o h => hb.cell (p:=⟨b,o,none⟩) h,fun b o h => hb.frozen (p:=⟨b,o,none⟩) h⟩
end
section
set_option maxRecDepth 100000
open Go.RowKit
open Go.Lib renaming hid → zh
theorem zeroE3 (w : World) : (zeroValue 3).run Tryz.prog w = .ok (.int .i64 0) w:=by kernel_rfl
theorem signK_int (c : UInt8) : signK c = if (c.toNat : Int) = 123 then 3 else if (c.toNat : Int) = 125 then 4 else if (c.toNat : Int) = 59 then 5 else 0 := by
  unfold signK
  simp only [← UInt8.toNat_inj]
  have e1 : (123 : UInt8).toNat = 123:=rfl
  have e2 : (125 : UInt8).toNat = 125:=rfl
  have e3 : (59 : UInt8).toNat = 59:=rfl
  rw [e1,e2,e3]
  repeat' split
  all_goals first | rfl | omega
theorem ret_ib {a b : Int} {x y : Bool} (h : a = b) (h' : x = y) : Ending.returned (.tuple #[.int .i64 a, .bool x]) = .returned (.tuple #[.int .i64 b, .bool y]):=by rw [h,h']
set_option maxHeartbeats 400000 in
theorem lex_sign (c : UInt8) (w : World)  :
    Calls Tryz.prog 102 #[.int .u8 c.toNat] w fun e w' => e = .returned (.tuple #[.int .i64 (signK c), .bool (!decide (signK c = 0))]) ∧ Below w.heap.size w w':=by
  have hmm:=@run_makeMap Tryz.prog
  have h1:=run_mapUpdate_last (w:=w) (es:=#[]) (clock:=0) (v:=.int .i64 3) Tryz.underlying159 Tryz.underlying5 (.int .u8 123) (by simp) rfl
  have h2:=run_mapUpdate_last (w:=w) (es:=#[⟨.int .u8 123, .int .i64 3,0⟩]) (clock:=1) (v:=.int .i64 4) Tryz.underlying159 Tryz.underlying5 (.int .u8 125) (by simp;constructor) rfl
  have h3:=run_mapUpdate_last (w:=w) (es:=#[⟨.int .u8 123, .int .i64 3,0⟩,⟨.int .u8 125, .int .i64 4,1⟩]) (clock:=2) (v:=.int .i64 5) Tryz.underlying159 Tryz.underlying5 (.int .u8 59) (by simp;constructor <;> constructor) rfl
  have h4:=run_lookup_ok (w:=w.alloc (.map #[⟨.int .u8 123, .int .i64 3,0⟩,⟨.int .u8 125, .int .i64 4,1⟩,⟨.int .u8 59, .int .i64 5,2⟩] 3)) Tryz.underlying159 Tryz.underlying5 (.int .u8 (c.toNat : Int)) (by simp;refine ⟨?_,?_,?_⟩ <;> constructor) (zeroE3 _) (heap_alloc_new w _)
  have hs:=signK_int c
  have HS:=zh hs
  clear hs
  have e : ((findE (.int .u8 (c.toNat : Int)) [⟨.int .u8 123, .int .i64 3,0⟩,⟨.int .u8 125, .int .i64 4,1⟩,⟨.int .u8 59, .int .i64 5,2⟩] 0).map (·.2)).getD (.int .i64 0) = .int .i64 (signK c) ∧
      (findE (.int .u8 (c.toNat : Int)) [⟨.int .u8 123, .int .i64 3,0⟩,⟨.int .u8 125, .int .i64 4,1⟩,⟨.int .u8 59, .int .i64 5,2⟩] 0).isSome = !decide (signK c = 0):=by
    rw [HS.out]
    simp only [findE,sameKey,beq_iff_eq]
    repeat' split
    all_goals simp_all
  rw [e.1,e.2] at h4
  simp at h1 h2 h3
  clear e
  go_enter Tryz.func102,Tryz.ntmps102
  go_wp2
  go_ret2
  exact ⟨rfl,(Below.refl _ _).alloc (Nat.le_refl _) _⟩
theorem numL_step (s : ByteArray) (k : Nat) (h : k < s.size) : numL (s.data.toList.take (k + 1)) = numL (s.data.toList.take k) * 10 + ((s[k].toNat : Int) - 48) := by
  rw [ba_take_snoc s k h,numL_snoc]
theorem ret_iii {a b c d e f : Int} (h : a = b) (h' : c = d) (h'' : e = f) : Ending.returned (.tuple #[.int .i64 a, .int .i64 c, .int .i64 e]) = .returned (.tuple #[.int .i64 b, .int .i64 d, .int .i64 f]):=by rw [h,h',h'']
theorem ba_head (s : ByteArray) (h : 0 < s.size) : s.data.toList.head? = some s[0] := by
  rw [List.head?_eq_getElem?,ba_get? s 0 h]
theorem head48 (s : ByteArray) (h : 0 < s.size) : s.data.toList.head? = some 48 ↔ (s[0].toNat : Int) = 48 := by
  rw [ba_head s h]
  simp only [Option.some.injEq,← UInt8.toNat_inj]
  have : (48 : UInt8).toNat = 48:=rfl
  omega
/-- What the number's loop goes over: the bytes as numbers,what is read behind k of them,and the world with the bytes' row. -/
theorem number_data (s : ByteArray) (m : Nat) (w : World) (hm : m = runL isDigit s.data.toList) (h9 : m ≤ 9) :
    ∃ (xs N : Nat → Int) (cap : Nat) (W : World),(convert 9 64 (.string (s.extract 0 m))).run Tryz.prog w = .ok (.slice (some ⟨w.heap.size,0,none⟩) m cap) W ∧ Below w.heap.size w W ∧
      (∀ k,k < m → W.cell? ⟨w.heap.size,k,none⟩ = some (.int .u8 (xs k)) ∧ 48 ≤ xs k ∧ xs k ≤ 57 ∧ N (k + 1) = N k * 10 + (xs k - 48)) ∧
      (∀ k,0 ≤ N k ∧ N k ≤ 999999999) ∧ N 0 = 0 ∧ N m = numL (s.data.toList.take m):=by
  have hle : m ≤ s.size:=by rw [hm,← ba_len];exact runL_le _ _
  have hall:=runL_all isDigit s.data.toList
  rw [← hm] at hall
  obtain ⟨t,ht⟩ : ∃ t,t = s.extract 0 m:=⟨_,rfl⟩
  have htl : t.data.toList = s.data.toList.take m:=by rw [ht,ba_to]
  have hts : t.size = m:=by rw [← ba_len,htl,List.length_take,ba_len];omega
  obtain ⟨cap,W,hconv,hbW,hcW⟩:=conv_bytes (P:=Tryz.prog) w 9 64 5 t Tryz.underlying9 Tryz.underlying64 Tryz.underlying5
  rw [hts] at hconv
  rw [← htl] at hall
  refine ⟨fun k => ((t.data.toList.getD k 0).toNat : Int),fun k => numL (t.data.toList.take k),cap,W,ht ▸ hconv,hbW,fun k hk => ?_,fun k => numL_lt _ k hall (by rw [ba_len];omega),by simp [numL],by dsimp only;rw [htl,List.take_take,Nat.min_self]⟩
  have hg : t.data.toList.getD k 0 = t[k]'(by omega) := by
    rw [List.getD,ba_get? t k (by omega)];rfl
  have hd:=(isDigit_iff _).1 ((List.all_eq_true.1 hall) (t[k]'(by omega)) (by rw [← ba_get t k (by omega)];exact List.getElem_mem _))
  dsimp only
  rw [hg]
  refine ⟨hcW k (by omega),by omega,by omega,?_⟩
  exact numL_step t k (by omega)
set_option maxHeartbeats 1000000 in
theorem lex_number (s : ByteArray) (w : World) (h0 : 0 < s.size) (hs : s.size ≤ maxLen) :
    Calls Tryz.prog 103 #[.string s] w fun e w' => e = .returned (.tuple #[.int .i64 (numberL s.data.toList).1, .int .i64 (numberL s.data.toList).2.1, .int .i64 (numberL s.data.toList).2.2]) ∧ Below w.heap.size w w':=by
  have hs':=hs
  unfold maxLen at hs'
  obtain ⟨m,hm⟩ : ∃ m,m = runL isDigit s.data.toList:=⟨_,rfl⟩
  have hle : m ≤ s.size:=by rw [hm,← ba_len];exact runL_le _ _
  have hn : numberL s.data.toList = if m > 9 then (0,0,6) else if (s[0].toNat : Int) = 48 ∧ m > 1 then (0,0,5) else if (s.data.toList[m]?).any isInner then (0,m,5) else (numL (s.data.toList.take m),m,0) := by
    unfold numberL
    rw [← hm]
    simp only [head48 s h0]
  have hdat:=number_data s m w hm
  have hrun:=lex_run_digit s w hs
  rw [← hm] at hrun
  have HR:=zh hrun
  have HN:=zh hn
  clear hrun hn hm
  by_cases h9 : 9 < m
  · clear hdat
    go_enter Tryz.func103,Tryz.ntmps103
    go_wp2_with fail
    refine HR.out.mono ?_;rintro e w' ⟨rfl,rfl⟩
    go_wp2
    go_ret3
    exact ⟨by rw [HN.out,if_pos h9];rfl,Below.refl _ _⟩
  by_cases hz : (s[0].toNat : Int) = 48 ∧ m > 1
  · clear hdat
    go_enter Tryz.func103,Tryz.ntmps103
    go_wp2_with fail
    refine HR.out.mono ?_;rintro e w' ⟨rfl,rfl⟩
    have hz1:=hz.1
    have hz2:=hz.2
    go_wp2
    go_ret3
    exact ⟨by rw [HN.out,if_neg h9,if_pos hz];rfl,Below.refl _ _⟩
  obtain ⟨xs,N,cap,W,hconv,hbW,hx,hNb,hN0,hNm⟩:=hdat (by omega)
  have HX:=zh hx
  have HB:=zh hNb
  have HM:=zh hNm
  have H0:=zh hN0
  have hsz:=hbW.size
  clear hx hNb hNm hdat hN0
  have hz1 : (s[0].toNat : Int) = 48 → m ≤ 1:=fun h => by omega
  have hin : (s.data.toList[m]?).any isInner = if h : m < s.size then isInner s[m] else false := by
    by_cases h : m < s.size
    · rw [ba_get? s m h,dif_pos h];rfl
    · rw [dif_neg h,List.getElem?_eq_none (by simp;omega)];rfl
  have HI:=zh hin
  clear hin
  go_enter Tryz.func103,Tryz.ntmps103
  go_wp2_with fail
  refine HR.out.mono ?_;rintro e w' ⟨rfl,rfl⟩
  go_wp2_with (first | (go_at_call 66;refine (lex_inner _ _).mono ?_;rintro e w' ⟨rfl,rfl⟩))
  all_goals first
    | (go_ret3;exact ⟨by rw [HN.out,if_neg h9,if_neg hz,HI.out];simp [*],Below.refl _ _⟩)
    | skip
  all_goals
    go_loop [2,37] (fun n i => ∃ k : Nat,k ≤ m ∧ i = .int .i64 k ∧ n = .int .i64 (N k)) (fun _ i => m - (intOf i).toNat)
    case atStart => exact ⟨0,Nat.zero_le _,rfl,by rw [H0.out]⟩
    case round =>
      obtain ⟨k,hk,rfl,rfl⟩:=hrel
      have hNk:=HB.out k
      by_cases hlt : k < m
      · obtain ⟨hc,hx1,hx2,hNs⟩ := HX.out k hlt
        have hNk':=HB.out (k + 1)
        have HNs:=zh hNs
        clear hNs
        go_wp2_with fail
        go_round
        case rel => exact ⟨k + 1,by omega,by go_num,by rw [HNs.out]⟩
        case measure => simp [intOf];omega
      · go_wp2_with fail
        go_ret3
        obtain rfl : k = m:=by omega
        exact ⟨by rw [HN.out,if_neg h9,if_neg hz,HI.out,← HM.out];simp [*],hbW⟩
end
section
open Go.RowKit
open Go.Lib renaming hid → zh
/-- A token as a value. -/
def Tok.val (t : Tok) : Value:=.agg #[.int .i64 t.kind, .int .i64 t.pos, .int .i64 t.n, .string ⟨t.s.toArray⟩]
theorem tokenL_cons (s : ByteArray) (h : 0 < s.size) (cnt : Nat) : tokenL s.data.toList cnt =
    (if signK s[0] = 0 ∧ isLetter s[0] = false ∧ isDigit s[0] = false then (⟨0,0,0,[]⟩,0,5)
    else if cnt = 8192 then (⟨0,0,0,[]⟩,0,6)
    else if signK s[0] ≠ 0 then (⟨signK s[0],0,0,[]⟩,1,0)
    else if isDigit s[0] then (⟨2,0,(numberL s.data.toList).1,[]⟩,(numberL s.data.toList).2.1,(numberL s.data.toList).2.2)
    else if runL isInner s.data.toList > 16 then (⟨0,0,0,[]⟩,0,6)
    else (⟨1,0,0,s.data.toList.take (runL isInner s.data.toList)⟩,runL isInner s.data.toList,0) : Tok × Nat × Int):=by
  have:=ba_drop_cons s 0 h
  rw [List.drop_zero] at this
  rw [this]
  rfl
/-- The four cells of a token's own block behind a call. -/
theorem tok_keeps {W w1 : World} {o : Obj} (hb : Below (W.alloc o).heap.size (W.alloc o) w1) : ∀ i,w1.cell? ⟨W.heap.size,i,none⟩ = (W.alloc o).cell? ⟨W.heap.size,i,none⟩ :=
  fun i => hb.cell (p:=⟨W.heap.size,i,none⟩) (by simp)
theorem tok_free {W w1 : World} {o : Obj} (hb : Below (W.alloc o).heap.size (W.alloc o) w1) : ∀ i,w1.frozen? ⟨W.heap.size,i,none⟩ = (W.alloc o).frozen? ⟨W.heap.size,i,none⟩ :=
  fun i => hb.frozen (p:=⟨W.heap.size,i,none⟩) (by simp)
theorem val_name (s : ByteArray) (m : Nat) : Value.agg #[.int .i64 1, .int .i64 0, .int .i64 0, .string (s.extract 0 m)] = (Tok.mk 1 0 0 (s.data.toList.take m)).val := by
  unfold Tok.val
  rw [← ba_to,ba_mk_toList]
set_option maxRecDepth 100000 in
set_option maxHeartbeats 2000000 in
theorem lex_token (s : ByteArray) (cnt : Nat) (w : World) (h0 : 0 < s.size) (hs : s.size ≤ maxLen) :
    Calls Tryz.prog 69 #[.string s, .int .i64 cnt] w fun e w' => e = .returned (.tuple #[(tokenL s.data.toList cnt).1.val, .int .i64 (tokenL s.data.toList cnt).2.1, .int .i64 (tokenL s.data.toList cnt).2.2]) ∧ Below w.heap.size w w':=by
  have hs':=hs
  unfold maxLen at hs'
  have ht:=tokenL_cons s h0 cnt
  by_cases hA : signK s[0] = 0 ∧ isLetter s[0] = false ∧ isDigit s[0] = false
  · rw [if_pos hA] at ht
    have HT:=zh ht
    clear ht
    obtain ⟨h1,h2,h3⟩:=hA
    go_enter Tryz.func69,Tryz.ntmps69
    go_wp2_with (first | (go_at_call 102;refine (lex_sign _ _).mono ?_;rintro e w' ⟨rfl,hb⟩;have q0:=tok_keeps hb 0;have q1:=tok_keeps hb 1;have q2:=tok_keeps hb 2;have q3:=tok_keeps hb 3;have z0:=tok_free hb 0;have z1:=tok_free hb 1;have z2:=tok_free hb 2;have z3:=tok_free hb 3;simp at q0 q1 q2 q3 z0 z1 z2 z3;have hsz:=hb.size;simp at hsz) | (go_at_call 64;refine (lex_letter _ _).mono ?_;rintro e w' ⟨rfl,rfl⟩) | (go_at_call 96;refine (lex_digit _ _).mono ?_;rintro e w' ⟨rfl,rfl⟩))
    refine bodyPost_ret (v:=.tuple #[.agg #[.int .i64 0, .int .i64 0, .int .i64 0, .string ⟨#[]⟩], .int .i64 0, .int .i64 5]) (by simp [results,Tryz.results69,go_sem, *]) rfl ⟨?_,?_⟩
    · rw [HT.out];rfl
    · (repeat (first | exact Below.refl _ _ | assumption | refine Below.setCell ?_ (by first | (simp;done) | (simp;omega) | omega) _ | refine Below.alloc ?_ (by first | (simp;done) | (simp;omega) | omega) _ | refine Below.drew ?_ | refine below_drewN ?_ _ | refine Below.trans ?_ (Below.mono (by assumption) (by first | (simp;done) | (simp;omega) | omega))))
  rw [if_neg hA] at ht
  have HA:=zh hA
  clear hA
  by_cases hB : cnt = 8192
  · rw [if_pos hB] at ht
    have HT:=zh ht
    clear ht
    have hb0 : ((cnt : Int) == 8192) = true:=by simp;omega
    clear hB
    by_cases hK : signK s[0] = 0 <;> cases hL : isLetter s[0] <;> cases hD : isDigit s[0]
    all_goals try (exfalso;refine HA.out ?_;refine ⟨?_,?_,?_⟩ <;> assumption;done)
    all_goals
      go_enter Tryz.func69,Tryz.ntmps69
      go_wp2_with (first | (go_at_call 102;refine (lex_sign _ _).mono ?_;rintro e w' ⟨rfl,hb⟩;have q0:=tok_keeps hb 0;have q1:=tok_keeps hb 1;have q2:=tok_keeps hb 2;have q3:=tok_keeps hb 3;have z0:=tok_free hb 0;have z1:=tok_free hb 1;have z2:=tok_free hb 2;have z3:=tok_free hb 3;simp at q0 q1 q2 q3 z0 z1 z2 z3;have hsz:=hb.size;simp at hsz) | (go_at_call 64;refine (lex_letter _ _).mono ?_;rintro e w' ⟨rfl,rfl⟩) | (go_at_call 96;refine (lex_digit _ _).mono ?_;rintro e w' ⟨rfl,rfl⟩))
      refine bodyPost_ret (v:=.tuple #[.agg #[.int .i64 0, .int .i64 0, .int .i64 0, .string ⟨#[]⟩], .int .i64 0, .int .i64 6]) (by simp [results,Tryz.results69,go_sem, *]) rfl ⟨?_,?_⟩
      · rw [HT.out];rfl
      · (repeat (first | exact Below.refl _ _ | assumption | refine Below.setCell ?_ (by first | (simp;done) | (simp;omega) | omega) _ | refine Below.alloc ?_ (by first | (simp;done) | (simp;omega) | omega) _ | refine Below.drew ?_ | refine below_drewN ?_ _ | refine Below.trans ?_ (Below.mono (by assumption) (by first | (simp;done) | (simp;omega) | omega))))
  rw [if_neg hB] at ht
  have hb0 : ((cnt : Int) == 8192) = false:=by simp;omega
  clear hB
  by_cases hK : signK s[0] = 0
  · rw [if_neg (by simp [hK])] at ht
    cases hD : isDigit s[0]
    · rw [if_neg (by simp [hD])] at ht
      have hL : isLetter s[0] = true := by
        cases hL : isLetter s[0]
        · exact absurd ⟨hK,hL,hD⟩ HA.out
        · rfl
      obtain ⟨m,hm⟩ : ∃ m,m = runL isInner s.data.toList:=⟨_,rfl⟩
      have hle : m ≤ s.size:=by rw [hm,← ba_len];exact runL_le _ _
      have hrun:=fun w => lex_run_inner s w hs
      rw [← hm] at ht hrun
      have HR:=zh hrun
      clear hm hrun
      have hv:=val_name s m
      have HV:=zh hv
      clear hv
      by_cases hlong : 16 < m
      · rw [if_pos hlong] at ht
        have HT:=zh ht
        clear ht
        go_enter Tryz.func69,Tryz.ntmps69
        go_wp2_with (first | (first | (go_at_call 102;refine (lex_sign _ _).mono ?_;rintro e w' ⟨rfl,hb⟩;have q0:=tok_keeps hb 0;have q1:=tok_keeps hb 1;have q2:=tok_keeps hb 2;have q3:=tok_keeps hb 3;have z0:=tok_free hb 0;have z1:=tok_free hb 1;have z2:=tok_free hb 2;have z3:=tok_free hb 3;simp at q0 q1 q2 q3 z0 z1 z2 z3;have hsz:=hb.size;simp at hsz) | (go_at_call 64;refine (lex_letter _ _).mono ?_;rintro e w' ⟨rfl,rfl⟩) | (go_at_call 96;refine (lex_digit _ _).mono ?_;rintro e w' ⟨rfl,rfl⟩)) | (go_at_call 65;refine (HR.out _).mono ?_;rintro e w' ⟨rfl,rfl⟩))
        refine bodyPost_ret (v:=.tuple #[.agg #[.int .i64 0, .int .i64 0, .int .i64 0, .string ⟨#[]⟩], .int .i64 0, .int .i64 6]) (by simp [results,Tryz.results69,go_sem, *]) rfl ⟨?_,?_⟩
        · rw [HT.out];rfl
        · (repeat (first | exact Below.refl _ _ | assumption | refine Below.setCell ?_ (by first | (simp;done) | (simp;omega) | omega) _ | refine Below.alloc ?_ (by first | (simp;done) | (simp;omega) | omega) _ | refine Below.drew ?_ | refine below_drewN ?_ _ | refine Below.trans ?_ (Below.mono (by assumption) (by first | (simp;done) | (simp;omega) | omega))))
      · rw [if_neg hlong] at ht
        have HT:=zh ht
        clear ht
        go_enter Tryz.func69,Tryz.ntmps69
        go_wp2_with (first | (first | (go_at_call 102;refine (lex_sign _ _).mono ?_;rintro e w' ⟨rfl,hb⟩;have q0:=tok_keeps hb 0;have q1:=tok_keeps hb 1;have q2:=tok_keeps hb 2;have q3:=tok_keeps hb 3;have z0:=tok_free hb 0;have z1:=tok_free hb 1;have z2:=tok_free hb 2;have z3:=tok_free hb 3;simp at q0 q1 q2 q3 z0 z1 z2 z3;have hsz:=hb.size;simp at hsz) | (go_at_call 64;refine (lex_letter _ _).mono ?_;rintro e w' ⟨rfl,rfl⟩) | (go_at_call 96;refine (lex_digit _ _).mono ?_;rintro e w' ⟨rfl,rfl⟩)) | (go_at_call 65;refine (HR.out _).mono ?_;rintro e w' ⟨rfl,rfl⟩))
        refine bodyPost_ret (v:=.tuple #[.agg #[.int .i64 1, .int .i64 0, .int .i64 0, .string (s.extract 0 m)], .int .i64 m, .int .i64 0]) (by simp [results,Tryz.results69,go_sem, *]) rfl ⟨?_,?_⟩
        · rw [HT.out,HV.out]
        · (repeat (first | exact Below.refl _ _ | assumption | refine Below.setCell ?_ (by first | (simp;done) | (simp;omega) | omega) _ | refine Below.alloc ?_ (by first | (simp;done) | (simp;omega) | omega) _ | refine Below.drew ?_ | refine below_drewN ?_ _ | refine Below.trans ?_ (Below.mono (by assumption) (by first | (simp;done) | (simp;omega) | omega))))
    · rw [if_pos hD] at ht
      have HT:=zh ht
      clear ht
      cases hL : isLetter s[0]
      all_goals
        go_enter Tryz.func69,Tryz.ntmps69
        go_wp2_with (first | (go_at_call 102;refine (lex_sign _ _).mono ?_;rintro e w' ⟨rfl,hb⟩;have q0:=tok_keeps hb 0;have q1:=tok_keeps hb 1;have q2:=tok_keeps hb 2;have q3:=tok_keeps hb 3;have z0:=tok_free hb 0;have z1:=tok_free hb 1;have z2:=tok_free hb 2;have z3:=tok_free hb 3;simp at q0 q1 q2 q3 z0 z1 z2 z3;have hsz:=hb.size;simp at hsz) | (go_at_call 64;refine (lex_letter _ _).mono ?_;rintro e w' ⟨rfl,rfl⟩) | (go_at_call 96;refine (lex_digit _ _).mono ?_;rintro e w' ⟨rfl,rfl⟩))
        refine (lex_number _ _ h0 hs).mono ?_
        rintro e w2 ⟨rfl,hb2⟩
        obtain ⟨hc2,hf2⟩:=bcell hb2
        have hsz2:=hb2.size
        have hl2 : w.heap.size < w'.heap.size:=by omega
        have q20:=(hc2 _ 0 hl2).trans q0
        have q21:=(hc2 _ 1 hl2).trans q1
        have q22:=(hc2 _ 2 hl2).trans q2
        have q23:=(hc2 _ 3 hl2).trans q3
        have z20:=(hf2 _ 0 hl2).trans z0
        have z21:=(hf2 _ 1 hl2).trans z1
        have z22:=(hf2 _ 2 hl2).trans z2
        have z23:=(hf2 _ 3 hl2).trans z3
        clear hc2 hf2
        go_wp2
        refine bodyPost_ret (v:=.tuple #[.agg #[.int .i64 2, .int .i64 0, .int .i64 (numberL s.data.toList).1, .string ⟨#[]⟩], .int .i64 (numberL s.data.toList).2.1, .int .i64 (numberL s.data.toList).2.2]) (by simp [results,Tryz.results69,go_sem, *]) rfl ⟨?_,?_⟩
        · rw [HT.out];rfl
        · (repeat (first | exact Below.refl _ _ | assumption | refine Below.setCell ?_ (by first | (simp;done) | (simp;omega) | omega) _ | refine Below.alloc ?_ (by first | (simp;done) | (simp;omega) | omega) _ | refine Below.drew ?_ | refine below_drewN ?_ _ | refine Below.trans ?_ (Below.mono (by assumption) (by first | (simp;done) | (simp;omega) | omega))))
  · rw [if_pos hK] at ht
    have HT:=zh ht
    clear ht
    cases hL : isLetter s[0] <;> cases hD : isDigit s[0]
    all_goals
      go_enter Tryz.func69,Tryz.ntmps69
      go_wp2_with (first | (go_at_call 102;refine (lex_sign _ _).mono ?_;rintro e w' ⟨rfl,hb⟩;have q0:=tok_keeps hb 0;have q1:=tok_keeps hb 1;have q2:=tok_keeps hb 2;have q3:=tok_keeps hb 3;have z0:=tok_free hb 0;have z1:=tok_free hb 1;have z2:=tok_free hb 2;have z3:=tok_free hb 3;simp at q0 q1 q2 q3 z0 z1 z2 z3;have hsz:=hb.size;simp at hsz) | (go_at_call 64;refine (lex_letter _ _).mono ?_;rintro e w' ⟨rfl,rfl⟩) | (go_at_call 96;refine (lex_digit _ _).mono ?_;rintro e w' ⟨rfl,rfl⟩))
      refine bodyPost_ret (v:=.tuple #[.agg #[.int .i64 (signK s[0]), .int .i64 0, .int .i64 0, .string ⟨#[]⟩], .int .i64 1, .int .i64 0]) (by simp [results,Tryz.results69,go_sem, *]) rfl ⟨?_,?_⟩
      · rw [HT.out];rfl
      · (repeat (first | exact Below.refl _ _ | assumption | refine Below.setCell ?_ (by first | (simp;done) | (simp;omega) | omega) _ | refine Below.alloc ?_ (by first | (simp;done) | (simp;omega) | omega) _ | refine Below.drew ?_ | refine below_drewN ?_ _ | refine Below.trans ?_ (Below.mono (by assumption) (by first | (simp;done) | (simp;omega) | omega))))
end
end Go.Proofs.YtjbniichcopnlaaGreatDoor
