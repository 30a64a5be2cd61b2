/- Layer 8, the reference: the walk of Cut. -/
import Derived.Test.YtjbniichcopnlaaPkR33
namespace Go.Proofs.Ytjbniichcopnlaa
open Go.RowKit
open Go.Lib renaming hid → zh
/-- What holds ahead of each round of the reference's loop. -/
def RI (s : ByteArray) (w : World) (k : Nat) (v : Value) (acc : List Tok) (wr : World) : Prop :=
  k ≤ s.size ∧ acc.length ≤ k ∧ OwnToks wr w.heap.size v acc ∧ Below w.heap.size w wr ∧
    cutM false 0 0 0 s.data.toList = (cutM false 0 k acc.length (s.data.toList.drop k)).pre acc
set_option maxRecDepth 100000 in
set_option maxHeartbeats 4000000 in
theorem ref8_Cut (s : ByteArray) (w : World) (hs : s.size ≤ maxLen) :
    Calls Try.prog 28 #[.string s] w (CutPost w (cutL s.data.toList)):=by
  have hs':=hs
  unfold maxLen at hs'
  have hcut : cutL s.data.toList = if s.size > 65536 then ⟨[],0,6⟩ else cutM false 0 0 0 s.data.toList:=by unfold cutL;rw [ba_len]
  have HC:=zh hcut
  clear hcut
  by_cases hbig : s.size > 65536
  · go_enter Try.func28,Try.ntmps28
    go_wp2
    go_ret3
    refine ⟨.slice none 0 0,?_,?_,?_⟩
    · rw [HC.out,if_pos hbig];rfl
    · rw [HC.out,if_pos hbig];exact World.ownsRow_nil _ _ _ _
    · exact Below.refl _ _
  · obtain ⟨i0,hi,hz0,hz1,hz2⟩ := info_parts info_tok
    go_enter Try.func28,Try.ntmps28
    go_wp2_with fail
    go_loopw [5,6] (fun v i wr => ∃ (k : Nat) (acc : List Tok),i = .int .i64 k ∧ RI s w k v acc wr) (fun _ i _ => s.size - (intOf i).toNat)
    case atStart => exact ⟨0,[],rfl,Nat.zero_le _,Nat.zero_le _,World.ownsRow_nil _ _ _ _,Below.refl _ _,by rw [cutM_pre_nil];rfl⟩
    case round =>
      obtain ⟨k,acc,rfl,hk,hak,hown,hB,hcm⟩:=hrel
      obtain ⟨A,c,rfl,hnc⟩:=own_form hown
      have hbs:=hB.size
      by_cases hlt : k < s.size
      · by_cases hb : isBlank s[k] = true
        · rw [cutM_blank s k _ hlt hb] at hcm
          have hb':=(blank_iff _).1 hb
          have HM:=zh hcm
          clear hcm hb
          rcases hb' with hb' | hb' | hb'
          all_goals
            go_wp2_with fail
            go_roundw
            case rel => exact ⟨k + 1,acc,by go_num,by omega,by omega,hown,hB,HM.out⟩
            case measure => simp [intOf];omega
        · have hb' := fun h => hb ((blank_iff _).2 h)
          have n1 : ((s[k].toNat : Int) == 32) = false:=beq_eq_false_iff_ne.2 fun h => hb' (.inl h)
          have n2 : ((s[k].toNat : Int) == 9) = false:=beq_eq_false_iff_ne.2 fun h => hb' (.inr (.inl h))
          have n3 : ((s[k].toNat : Int) == 10) = false:=beq_eq_false_iff_ne.2 fun h => hb' (.inr (.inr h))
          clear hb'
          by_cases h35 : s[k] = 35
          · clear n1 n2 n3
            rw [cutM_hash s k _ hlt h35] at hcm
            have h35':=(hash_iff _).1 h35
            have HM:=zh hcm
            clear hcm hb h35
            go_wp2_with fail
            obtain ⟨wo,rfl⟩ : ∃ wo : World,wo = wr:=⟨_,rfl⟩
            go_loop [6] (fun i => ∃ j : Nat,i = .int .i64 j ∧ k ≤ j ∧ j ≤ s.size ∧ cutM false 0 0 0 s.data.toList = (cutM true 0 j acc.length (s.data.toList.drop j)).pre acc) (fun i => s.size - (intOf i).toNat)
            case atStart => exact ⟨k,rfl,Nat.le_refl _,hk,HM.out⟩
            case round =>
              obtain ⟨j,rfl,hkj,hjs,hj⟩:=hrel
              by_cases hjl : j < s.size
              · cases he : notEol s[j]
                · rw [cutM_eol s j _ hjl he] at hj
                  have HJ:=zh hj
                  have hx:=(eol_iff _).1 he
                  clear hj he
                  have hne : j ≠ k:=fun h => by subst h;omega
                  go_wp2_with fail
                  go_roundw
                  case rel => exact ⟨j,acc,rfl,hjs,by omega,hown,hB,HJ.out⟩
                  case measure => simp [intOf];omega
                · have hx : ¬ (s[j].toNat : Int) = 10 := fun h => by rw [(eol_iff _).2 h] at he; cases he
                  rw [cutM_rem s j _ hjl,he] at hj
                  have HJ:=zh hj
                  clear hj he
                  go_wp2_with fail
                  go_round
                  case rel => exact ⟨j + 1,by go_num,by omega,by omega,HJ.out⟩
                  case measure => simp [intOf];omega
              · rw [cutM_end true s j _ (by omega)] at hj
                have hje:=(cutM_end false s j acc.length (by omega)).symm
                rw [hje] at hj
                have HJ:=zh hj
                clear hj hje
                go_wp2_with fail
                go_roundw
                case rel => exact ⟨j,acc,rfl,hjs,by omega,hown,hB,HJ.out⟩
                case measure => simp [intOf];omega
          · have hne : s.data.toList.drop k ≠ [] := by rw [ba_drop_cons s k hlt]; simp
            have hst:=cutM_tok k acc.length _ hne (free0 s k hlt hb h35)
            have htd:=tokenL_at s k acc.length hlt
            have n4 : ((s[k].toNat : Int) == 35) = false:=beq_eq_false_iff_ne.2 fun h => h35 ((hash_iff _).2 h)
            clear hne
            by_cases hA : signK s[k] = 0 ∧ isLetter s[k] = false ∧ isDigit s[k] = false
            · rw [if_pos hA] at htd
              rw [hst,htd,if_pos (by decide),CutRes.pre_err _ _ _ (by decide)] at hcm
              obtain ⟨hK,hL,hD⟩:=hA
              have HM:=zh hcm
              clear hcm hst htd hb h35
              go_wp2_with (first | (go_at_call 55;refine (ref8_letter _ _).mono ?_;rintro e w' ⟨rfl,rfl⟩) | (go_at_call 56;refine (ref8_digit _ _).mono ?_;rintro e w' ⟨rfl,rfl⟩) | (go_at_call 57;refine (ref8_kind _ _).mono ?_;rintro e w' ⟨rfl,rfl⟩) | (go_at_call 58;refine (ref8_inner _ _).mono ?_;rintro e w' ⟨rfl,rfl⟩))
              go_ret3
              refine ⟨.slice none 0 0,?_,?_,hB⟩
              · rw [HC.out,if_neg hbig,HM.out];rfl
              · rw [HC.out,if_neg hbig,HM.out];exact World.ownsRow_nil _ _ _ _
            rw [if_neg hA] at htd
            have h3:=class3 _ hA
            clear hA
            by_cases h81 : acc.length = 8192
            · rw [if_pos h81] at htd
              rw [hst,htd,if_pos (by decide),CutRes.pre_err _ _ _ (by decide)] at hcm
              have hb0 : ((acc.length : Int) == 8192) = true:=by simp;omega
              have HM:=zh hcm
              clear hcm hst htd h81 hb h35
              rcases h3 with ⟨hK,hL,hD⟩ | ⟨hK,hL,hD⟩ | ⟨hK,hL,hD⟩
              all_goals
                go_wp2_with (first | (go_at_call 55;refine (ref8_letter _ _).mono ?_;rintro e w' ⟨rfl,rfl⟩) | (go_at_call 56;refine (ref8_digit _ _).mono ?_;rintro e w' ⟨rfl,rfl⟩) | (go_at_call 57;refine (ref8_kind _ _).mono ?_;rintro e w' ⟨rfl,rfl⟩) | (go_at_call 58;refine (ref8_inner _ _).mono ?_;rintro e w' ⟨rfl,rfl⟩))
                go_ret3
                refine ⟨.slice none 0 0,?_,?_,hB⟩
                · rw [HC.out,if_neg hbig,HM.out];rfl
                · rw [HC.out,if_neg hbig,HM.out];exact World.ownsRow_nil _ _ _ _
            rw [if_neg h81] at htd
            have hb0 : ((acc.length : Int) == 8192) = false:=by simp;omega
            rcases h3 with ⟨hK,hL,hD⟩ | ⟨hK,hL,hD⟩ | ⟨hK,hL,hD⟩
            · rw [if_pos hK] at htd
              rw [hst,htd,if_neg (fun h => h rfl),CutRes.pre_cons] at hcm
              have hkb : (signK s[k] == 0) = false:=by simpa using hK
              have HM:=zh hcm
              clear hcm hst htd hK hb h35 h81
              go_wp2_with (first | (first | (go_at_call 55;refine (ref8_letter _ _).mono ?_;rintro e w' ⟨rfl,rfl⟩) | (go_at_call 56;refine (ref8_digit _ _).mono ?_;rintro e w' ⟨rfl,rfl⟩) | (go_at_call 57;refine (ref8_kind _ _).mono ?_;rintro e w' ⟨rfl,rfl⟩) | (go_at_call 58;refine (ref8_inner _ _).mono ?_;rintro e w' ⟨rfl,rfl⟩)) | (at_builtin;refine wpList_append_own _ rfl _ _ 48 rfl w.heap.size 58 i0 _ 4 40 Try.underlying48 hi hz0 hz1 hz2 rfl (by decide) _ _ _ rfl (((show wr.ownsRow _ _ _ _ _ _ from hown).alloc _).alloc _) ⟨wr.heap.size + 1,0,none⟩ 1 1 [.int .i64 (signK s[k]), .int .i64 k, .int .i64 0, .string ⟨#[]⟩] rfl rfl (cells_new _ [.int .i64 (signK s[k]), .int .i64 k, .int .i64 0, .string ⟨#[]⟩] _ _ (by simp)) (fun x hx => by simp at hx;rcases hx with rfl | rfl | rfl | rfl <;> rfl) (by unfold maxLen;omega) (by omega) (by simp;omega) ?_;intro v' w3 hown3 hgrow3 _))
              have hB3 : Below w.heap.size w w3 := by
                refine below_own ?_ hgrow3 (by simp;omega) (((show wr.ownsRow _ _ _ _ _ _ from hown).alloc _).alloc _) (Nat.le_refl _)
                exact (hB.alloc (by omega) _).alloc (by simp;omega) _
              have hown4 : OwnToks w3 w.heap.size v' (acc ++ [⟨signK s[k],k,0,[]⟩]) := by
                unfold OwnToks
                rw [List.length_append,List.flatMap_append]
                exact hown3
              clear hgrow3 hown3 hown
              go_roundw
              case rel =>
                refine ⟨k + 1,acc ++ [⟨signK s[k],k,0,[]⟩],by go_num,by omega,by rw [List.length_append];simp;omega,hown4,hB3,?_⟩
                rw [HM.out,List.length_append,List.drop_drop]
                rfl
              case measure => simp [intOf];omega
            · rw [if_neg (by simp [hK]),if_neg (by simp [hD])] at htd
              have hinn : isInner s[k] = true:=by simp [isInner,hL]
              have hm1 : 0 < runL isInner (s.data.toList.drop k):=by rw [ba_drop_cons s k hlt];exact runL_head _ _ _ hinn
              have hml:=runL_le isInner (s.data.toList.drop k)
              rw [List.length_drop,ba_len] at hml
              obtain ⟨m,hm⟩ : ∃ m,m = runL isInner (s.data.toList.drop k):=⟨_,rfl⟩
              rw [← hm] at htd hm1 hml
              have HMM:=zh hm
              by_cases hlong : 16 < m
              · rw [if_pos hlong] at htd
                rw [hst,htd,if_pos (by decide),CutRes.pre_err _ _ _ (by decide)] at hcm
                have HM:=zh hcm
                clear hcm hst htd hm hinn hb h35 h81
                go_wp2_with (first | (go_at_call 55;refine (ref8_letter _ _).mono ?_;rintro e w' ⟨rfl,rfl⟩) | (go_at_call 56;refine (ref8_digit _ _).mono ?_;rintro e w' ⟨rfl,rfl⟩) | (go_at_call 57;refine (ref8_kind _ _).mono ?_;rintro e w' ⟨rfl,rfl⟩) | (go_at_call 58;refine (ref8_inner _ _).mono ?_;rintro e w' ⟨rfl,rfl⟩))
                go_loop [8] (fun e => ∃ j : Nat,e = .int .i64 ((k : Int) + j) ∧ 1 ≤ j ∧ j ≤ m) (fun e => s.size - (intOf e).toNat)
                case atStart => exact ⟨1,rfl,Nat.le_refl _,hm1⟩
                case round =>
                  obtain ⟨j,rfl,hj1,hjm⟩:=hrel
                  by_cases hjl : k + j < s.size
                  · have hst2 := runL_at isInner s k j hjl (by rw [← HMM.out]; exact hjm)
                    rw [← HMM.out] at hst2
                    cases hI : isInner s[k + j]
                    · have hjm' : m = j := hst2.2 hI
                      subst hjm'
                      clear hst2
                      go_wp2_with (first | (go_at_call 55;refine (ref8_letter _ _).mono ?_;rintro e w' ⟨rfl,rfl⟩) | (go_at_call 56;refine (ref8_digit _ _).mono ?_;rintro e w' ⟨rfl,rfl⟩) | (go_at_call 57;refine (ref8_kind _ _).mono ?_;rintro e w' ⟨rfl,rfl⟩) | (go_at_call 58;refine (ref8_inner _ _).mono ?_;rintro e w' ⟨rfl,rfl⟩))
                      go_ret3
                      refine ⟨.slice none 0 0,?_,?_,?_⟩
                      · rw [HC.out,if_neg hbig,HM.out];rfl
                      · rw [HC.out,if_neg hbig,HM.out];exact World.ownsRow_nil _ _ _ _
                      · exact hB.alloc (by omega) _
                    · have hjm' := hst2.1 hI
                      clear hst2
                      go_wp2_with (first | (go_at_call 55;refine (ref8_letter _ _).mono ?_;rintro e w' ⟨rfl,rfl⟩) | (go_at_call 56;refine (ref8_digit _ _).mono ?_;rintro e w' ⟨rfl,rfl⟩) | (go_at_call 57;refine (ref8_kind _ _).mono ?_;rintro e w' ⟨rfl,rfl⟩) | (go_at_call 58;refine (ref8_inner _ _).mono ?_;rintro e w' ⟨rfl,rfl⟩))
                      go_round
                      case rel => exact ⟨j + 1,by go_num,by omega,hjm'⟩
                      case measure => simp [intOf];omega
                  · have hjm' : j = m := by omega
                    subst hjm'
                    go_wp2_with (first | (go_at_call 55;refine (ref8_letter _ _).mono ?_;rintro e w' ⟨rfl,rfl⟩) | (go_at_call 56;refine (ref8_digit _ _).mono ?_;rintro e w' ⟨rfl,rfl⟩) | (go_at_call 57;refine (ref8_kind _ _).mono ?_;rintro e w' ⟨rfl,rfl⟩) | (go_at_call 58;refine (ref8_inner _ _).mono ?_;rintro e w' ⟨rfl,rfl⟩))
                    go_ret3
                    refine ⟨.slice none 0 0,?_,?_,?_⟩
                    · rw [HC.out,if_neg hbig,HM.out];rfl
                    · rw [HC.out,if_neg hbig,HM.out];exact World.ownsRow_nil _ _ _ _
                    · exact hB.alloc (by omega) _
              · rw [if_neg hlong] at htd
                rw [hst,htd,if_neg (fun h => h rfl),CutRes.pre_cons] at hcm
                have HM:=zh hcm
                clear hcm hst htd hm hinn hb h35 h81
                have hx:=extract_at s k m
                have HX:=zh hx
                clear hx
                go_wp2_with (first | (go_at_call 55;refine (ref8_letter _ _).mono ?_;rintro e w' ⟨rfl,rfl⟩) | (go_at_call 56;refine (ref8_digit _ _).mono ?_;rintro e w' ⟨rfl,rfl⟩) | (go_at_call 57;refine (ref8_kind _ _).mono ?_;rintro e w' ⟨rfl,rfl⟩) | (go_at_call 58;refine (ref8_inner _ _).mono ?_;rintro e w' ⟨rfl,rfl⟩))
                go_loop [8] (fun e => ∃ j : Nat,e = .int .i64 ((k : Int) + j) ∧ 1 ≤ j ∧ j ≤ m) (fun e => s.size - (intOf e).toNat)
                case atStart => exact ⟨1,rfl,Nat.le_refl _,hm1⟩
                case round =>
                  obtain ⟨j,rfl,hj1,hjm⟩:=hrel
                  by_cases hjl : k + j < s.size
                  · have hst2 := runL_at isInner s k j hjl (by rw [← HMM.out]; exact hjm)
                    rw [← HMM.out] at hst2
                    cases hI : isInner s[k + j]
                    · have hjm' : m = j := hst2.2 hI
                      subst hjm'
                      clear hst2
                      go_wp2_with (first | (first | (go_at_call 55;refine (ref8_letter _ _).mono ?_;rintro e w' ⟨rfl,rfl⟩) | (go_at_call 56;refine (ref8_digit _ _).mono ?_;rintro e w' ⟨rfl,rfl⟩) | (go_at_call 57;refine (ref8_kind _ _).mono ?_;rintro e w' ⟨rfl,rfl⟩) | (go_at_call 58;refine (ref8_inner _ _).mono ?_;rintro e w' ⟨rfl,rfl⟩)) | (at_builtin;refine wpList_append_own _ rfl _ _ 48 rfl w.heap.size 58 i0 _ 4 40 Try.underlying48 hi hz0 hz1 hz2 rfl (by decide) _ _ _ rfl (((show wr.ownsRow _ _ _ _ _ _ from hown).alloc _).alloc _) ⟨wr.heap.size + 1,0,none⟩ 1 1 [.int .i64 1, .int .i64 k, .int .i64 0, .string (s.extract k (k + m))] rfl rfl (cells_new _ [.int .i64 1, .int .i64 k, .int .i64 0, .string (s.extract k (k + m))] _ _ (by simp)) (fun x hx => by simp at hx;rcases hx with rfl | rfl | rfl | rfl <;> rfl) (by unfold maxLen;omega) (by omega) (by simp;omega) ?_;intro v' w3 hown3 hgrow3 _))
                      rw [HX.out] at hown3
                      have hB3 : Below w.heap.size w w3 := by
                        refine below_own ?_ hgrow3 (by simp;omega) (((show wr.ownsRow _ _ _ _ _ _ from hown).alloc _).alloc _) (Nat.le_refl _)
                        exact (hB.alloc (by omega) _).alloc (by simp;omega) _
                      have hown4 : OwnToks w3 w.heap.size v' (acc ++ [⟨1,k,0,(s.data.toList.drop k).take m⟩]) := by
                        unfold OwnToks
                        rw [List.length_append,List.flatMap_append]
                        exact hown3
                      clear hgrow3 hown3 hown
                      go_roundw
                      case rel =>
                        refine ⟨k + m,acc ++ [⟨1,k,0,(s.data.toList.drop k).take m⟩],by go_num,by omega,by rw [List.length_append];simp;omega,hown4,hB3,?_⟩
                        rw [HM.out,List.length_append,List.drop_drop]
                        rfl
                      case measure => simp [intOf];omega
                    · have hjm' := hst2.1 hI
                      clear hst2
                      go_wp2_with (first | (go_at_call 55;refine (ref8_letter _ _).mono ?_;rintro e w' ⟨rfl,rfl⟩) | (go_at_call 56;refine (ref8_digit _ _).mono ?_;rintro e w' ⟨rfl,rfl⟩) | (go_at_call 57;refine (ref8_kind _ _).mono ?_;rintro e w' ⟨rfl,rfl⟩) | (go_at_call 58;refine (ref8_inner _ _).mono ?_;rintro e w' ⟨rfl,rfl⟩))
                      go_round
                      case rel => exact ⟨j + 1,by go_num,by omega,hjm'⟩
                      case measure => simp [intOf];omega
                  · have hjm' : j = m := by omega
                    subst hjm'
                    go_wp2_with (first | (first | (go_at_call 55;refine (ref8_letter _ _).mono ?_;rintro e w' ⟨rfl,rfl⟩) | (go_at_call 56;refine (ref8_digit _ _).mono ?_;rintro e w' ⟨rfl,rfl⟩) | (go_at_call 57;refine (ref8_kind _ _).mono ?_;rintro e w' ⟨rfl,rfl⟩) | (go_at_call 58;refine (ref8_inner _ _).mono ?_;rintro e w' ⟨rfl,rfl⟩)) | (at_builtin;refine wpList_append_own _ rfl _ _ 48 rfl w.heap.size 58 i0 _ 4 40 Try.underlying48 hi hz0 hz1 hz2 rfl (by decide) _ _ _ rfl (((show wr.ownsRow _ _ _ _ _ _ from hown).alloc _).alloc _) ⟨wr.heap.size + 1,0,none⟩ 1 1 [.int .i64 1, .int .i64 k, .int .i64 0, .string (s.extract k (k + j))] rfl rfl (cells_new _ [.int .i64 1, .int .i64 k, .int .i64 0, .string (s.extract k (k + j))] _ _ (by simp)) (fun x hx => by simp at hx;rcases hx with rfl | rfl | rfl | rfl <;> rfl) (by unfold maxLen;omega) (by omega) (by simp;omega) ?_;intro v' w3 hown3 hgrow3 _))
                    rw [HX.out] at hown3
                    have hB3 : Below w.heap.size w w3 := by
                      refine below_own ?_ hgrow3 (by simp;omega) (((show wr.ownsRow _ _ _ _ _ _ from hown).alloc _).alloc _) (Nat.le_refl _)
                      exact (hB.alloc (by omega) _).alloc (by simp;omega) _
                    have hown4 : OwnToks w3 w.heap.size v' (acc ++ [⟨1,k,0,(s.data.toList.drop k).take j⟩]) := by
                      unfold OwnToks
                      rw [List.length_append,List.flatMap_append]
                      exact hown3
                    clear hgrow3 hown3 hown
                    go_roundw
                    case rel =>
                      refine ⟨k + j,acc ++ [⟨1,k,0,(s.data.toList.drop k).take j⟩],by go_num,by omega,by rw [List.length_append];simp;omega,hown4,hB3,?_⟩
                      rw [HM.out,List.length_append,List.drop_drop]
                      rfl
                    case measure => simp [intOf];omega
            · have hm1 : 0 < runL isDigit (s.data.toList.drop k) := by rw [ba_drop_cons s k hlt]; exact runL_head _ _ _ hD
              have hml:=runL_le isDigit (s.data.toList.drop k)
              rw [List.length_drop,ba_len] at hml
              obtain ⟨m,hm⟩ : ∃ m,m = runL isDigit (s.data.toList.drop k):=⟨_,rfl⟩
              rw [← hm] at hm1 hml
              have hnumb:=num_at s k m hm
              rw [cutM_digit s k acc.length m hlt hb h35 hK hD h81 hm] at hcm
              have HMM:=zh hm
              have HCM:=zh hcm
              clear hcm hst htd hm h81 hb h35
              go_wp2_with (first | (go_at_call 55;refine (ref8_letter _ _).mono ?_;rintro e w' ⟨rfl,rfl⟩) | (go_at_call 56;refine (ref8_digit _ _).mono ?_;rintro e w' ⟨rfl,rfl⟩) | (go_at_call 57;refine (ref8_kind _ _).mono ?_;rintro e w' ⟨rfl,rfl⟩) | (go_at_call 58;refine (ref8_inner _ _).mono ?_;rintro e w' ⟨rfl,rfl⟩))
              go_loop [8] (fun e => ∃ j : Nat,e = .int .i64 ((k : Int) + j) ∧ 1 ≤ j ∧ j ≤ m) (fun e => s.size - (intOf e).toNat)
              case atStart => exact ⟨1,rfl,Nat.le_refl _,hm1⟩
              case round =>
                obtain ⟨j,rfl,hj1,hjm⟩:=hrel
                by_cases hjl : k + j < s.size
                · have hst2 := runL_at isDigit s k j hjl (by rw [← HMM.out]; exact hjm)
                  rw [← HMM.out] at hst2
                  cases hI : isDigit s[k + j]
                  · have hjm' : m = j := hst2.2 hI
                    subst hjm'
                    clear hst2
                    by_cases h9 : m > 9
                    · clear hnumb
                      have HM:=zh (HCM.out.trans (by rw [if_pos h9,CutRes.pre_err _ _ _ (by decide)]))
                      go_wp2_with (first | (go_at_call 55;refine (ref8_letter _ _).mono ?_;rintro e w' ⟨rfl,rfl⟩) | (go_at_call 56;refine (ref8_digit _ _).mono ?_;rintro e w' ⟨rfl,rfl⟩) | (go_at_call 57;refine (ref8_kind _ _).mono ?_;rintro e w' ⟨rfl,rfl⟩) | (go_at_call 58;refine (ref8_inner _ _).mono ?_;rintro e w' ⟨rfl,rfl⟩))
                      go_ret3
                      refine ⟨.slice none 0 0,?_,?_,?_⟩
                      · rw [HC.out,if_neg hbig,HM.out];rfl
                      · rw [HC.out,if_neg hbig,HM.out];exact World.ownsRow_nil _ _ _ _
                      · exact hB.alloc (by omega) _
                    obtain ⟨N,hN0,hNm,hNb,hNs⟩:=hnumb (by omega)
                    have HN0:=zh hN0
                    have HNm:=zh hNm
                    have HNb:=zh hNb
                    have HNs:=zh hNs
                    clear hN0 hNm hNb hNs hnumb
                    by_cases hx : (s[k].toNat : Int) = 48
                    · by_cases h1 : m > 1
                      · have HM := zh (HCM.out.trans (by rw [if_neg h9,if_pos ⟨hx,h1⟩,CutRes.pre_err _ _ _ (by decide)]))
                        go_wp2_with (first | (go_at_call 55;refine (ref8_letter _ _).mono ?_;rintro e w' ⟨rfl,rfl⟩) | (go_at_call 56;refine (ref8_digit _ _).mono ?_;rintro e w' ⟨rfl,rfl⟩) | (go_at_call 57;refine (ref8_kind _ _).mono ?_;rintro e w' ⟨rfl,rfl⟩) | (go_at_call 58;refine (ref8_inner _ _).mono ?_;rintro e w' ⟨rfl,rfl⟩))
                        go_ret3
                        refine ⟨.slice none 0 0,?_,?_,?_⟩
                        · rw [HC.out,if_neg hbig,HM.out];rfl
                        · rw [HC.out,if_neg hbig,HM.out];exact World.ownsRow_nil _ _ _ _
                        · exact hB.alloc (by omega) _
                      cases hI2 : isInner s[k + m]
                      · have hcm2 := HCM.out.trans (by rw [if_neg h9,if_neg (fun h => h1 h.2),dif_pos hjl,hI2,if_neg (by simp),CutRes.pre_cons])
                        have HM:=zh hcm2
                        clear hcm2
                        go_wp2_with (first | (go_at_call 55;refine (ref8_letter _ _).mono ?_;rintro e w' ⟨rfl,rfl⟩) | (go_at_call 56;refine (ref8_digit _ _).mono ?_;rintro e w' ⟨rfl,rfl⟩) | (go_at_call 57;refine (ref8_kind _ _).mono ?_;rintro e w' ⟨rfl,rfl⟩) | (go_at_call 58;refine (ref8_inner _ _).mono ?_;rintro e w' ⟨rfl,rfl⟩))
                        go_loop [10,11] (fun n i => ∃ q : Nat,i = .int .i64 ((k : Int) + q) ∧ q ≤ m ∧ n = .int .i64 (N q)) (fun _ i => s.size - (intOf i).toNat)
                        case atStart => exact ⟨0,by go_num,Nat.zero_le _,by rw [HN0.out]⟩
                        case round =>
                          obtain ⟨q,rfl,hqm,rfl⟩:=hrel
                          have hNq:=HNb.out q
                          by_cases hql : q < m
                          · have hkq : k + q < s.size := by omega
                            obtain ⟨hx1,hx2,hNs⟩:=HNs.out q hkq hql
                            have hNq':=HNb.out (q + 1)
                            have HS:=zh hNs
                            clear hNs
                            go_wp2_with fail
                            go_round
                            case rel => exact ⟨q + 1,by go_num,by omega,val_int (by rw [HS.out];omega)⟩
                            case measure => simp [intOf];omega
                          · obtain rfl : q = m := by omega
                            go_wp2_with (at_builtin;refine wpList_append_own _ rfl _ _ 48 rfl w.heap.size 58 i0 _ 4 40 Try.underlying48 hi hz0 hz1 hz2 rfl (by decide) _ _ _ rfl (((show wr.ownsRow _ _ _ _ _ _ from hown).alloc _).alloc _) ⟨wr.heap.size + 1,0,none⟩ 1 1 [.int .i64 2, .int .i64 k, .int .i64 (N q), .string ⟨#[]⟩] rfl rfl (cells_new _ [.int .i64 2, .int .i64 k, .int .i64 (N q), .string ⟨#[]⟩] _ _ (by simp)) (fun x hx => by simp at hx;rcases hx with rfl | rfl | rfl | rfl <;> rfl) (by unfold maxLen;omega) (by omega) (by simp;omega) ?_;intro v' w3 hown3 hgrow3 _)
                            have hB3 : Below w.heap.size w w3 := by
                              refine below_own ?_ hgrow3 (by simp;omega) (((show wr.ownsRow _ _ _ _ _ _ from hown).alloc _).alloc _) (Nat.le_refl _)
                              exact (hB.alloc (by omega) _).alloc (by simp;omega) _
                            have hown4 : OwnToks w3 w.heap.size v' (acc ++ [⟨2,k,N q,[]⟩]) := by
                              unfold OwnToks
                              rw [List.length_append,List.flatMap_append]
                              exact hown3
                            clear hgrow3 hown3 hown
                            go_roundw
                            case rel =>
                              refine ⟨k + q,acc ++ [⟨2,k,N q,[]⟩],by go_num,by omega,by rw [List.length_append];simp;omega,hown4,hB3,?_⟩
                              rw [HM.out,List.length_append,HNm.out]
                              rfl
                            case measure => simp [intOf];omega
                      · have HM := zh (HCM.out.trans (by rw [if_neg h9,if_neg (fun h => h1 h.2),dif_pos hjl,hI2,if_pos rfl,CutRes.pre_err _ _ _ (by decide)]))
                        go_wp2_with (first | (go_at_call 55;refine (ref8_letter _ _).mono ?_;rintro e w' ⟨rfl,rfl⟩) | (go_at_call 56;refine (ref8_digit _ _).mono ?_;rintro e w' ⟨rfl,rfl⟩) | (go_at_call 57;refine (ref8_kind _ _).mono ?_;rintro e w' ⟨rfl,rfl⟩) | (go_at_call 58;refine (ref8_inner _ _).mono ?_;rintro e w' ⟨rfl,rfl⟩))
                        go_ret3
                        refine ⟨.slice none 0 0,?_,?_,?_⟩
                        · rw [HC.out,if_neg hbig,HM.out];rfl
                        · rw [HC.out,if_neg hbig,HM.out];exact World.ownsRow_nil _ _ _ _
                        · exact hB.alloc (by omega) _
                    have hxb : ((s[k].toNat : Int) == 48) = false:=beq_eq_false_iff_ne.2 hx
                    cases hI2 : isInner s[k + m]
                    · have hcm2 := HCM.out.trans (by rw [if_neg h9,if_neg (fun h => hx h.1),dif_pos hjl,hI2,if_neg (by simp),CutRes.pre_cons])
                      have HM:=zh hcm2
                      clear hcm2
                      go_wp2_with (first | (go_at_call 55;refine (ref8_letter _ _).mono ?_;rintro e w' ⟨rfl,rfl⟩) | (go_at_call 56;refine (ref8_digit _ _).mono ?_;rintro e w' ⟨rfl,rfl⟩) | (go_at_call 57;refine (ref8_kind _ _).mono ?_;rintro e w' ⟨rfl,rfl⟩) | (go_at_call 58;refine (ref8_inner _ _).mono ?_;rintro e w' ⟨rfl,rfl⟩))
                      go_loop [10,11] (fun n i => ∃ q : Nat,i = .int .i64 ((k : Int) + q) ∧ q ≤ m ∧ n = .int .i64 (N q)) (fun _ i => s.size - (intOf i).toNat)
                      case atStart => exact ⟨0,by go_num,Nat.zero_le _,by rw [HN0.out]⟩
                      case round =>
                        obtain ⟨q,rfl,hqm,rfl⟩:=hrel
                        have hNq:=HNb.out q
                        by_cases hql : q < m
                        · have hkq : k + q < s.size := by omega
                          obtain ⟨hx1,hx2,hNs⟩:=HNs.out q hkq hql
                          have hNq':=HNb.out (q + 1)
                          have HS:=zh hNs
                          clear hNs
                          go_wp2_with fail
                          go_round
                          case rel => exact ⟨q + 1,by go_num,by omega,val_int (by rw [HS.out];omega)⟩
                          case measure => simp [intOf];omega
                        · obtain rfl : q = m := by omega
                          go_wp2_with (at_builtin;refine wpList_append_own _ rfl _ _ 48 rfl w.heap.size 58 i0 _ 4 40 Try.underlying48 hi hz0 hz1 hz2 rfl (by decide) _ _ _ rfl (((show wr.ownsRow _ _ _ _ _ _ from hown).alloc _).alloc _) ⟨wr.heap.size + 1,0,none⟩ 1 1 [.int .i64 2, .int .i64 k, .int .i64 (N q), .string ⟨#[]⟩] rfl rfl (cells_new _ [.int .i64 2, .int .i64 k, .int .i64 (N q), .string ⟨#[]⟩] _ _ (by simp)) (fun x hx => by simp at hx;rcases hx with rfl | rfl | rfl | rfl <;> rfl) (by unfold maxLen;omega) (by omega) (by simp;omega) ?_;intro v' w3 hown3 hgrow3 _)
                          have hB3 : Below w.heap.size w w3 := by
                            refine below_own ?_ hgrow3 (by simp;omega) (((show wr.ownsRow _ _ _ _ _ _ from hown).alloc _).alloc _) (Nat.le_refl _)
                            exact (hB.alloc (by omega) _).alloc (by simp;omega) _
                          have hown4 : OwnToks w3 w.heap.size v' (acc ++ [⟨2,k,N q,[]⟩]) := by
                            unfold OwnToks
                            rw [List.length_append,List.flatMap_append]
                            exact hown3
                          clear hgrow3 hown3 hown
                          go_roundw
                          case rel =>
                            refine ⟨k + q,acc ++ [⟨2,k,N q,[]⟩],by go_num,by omega,by rw [List.length_append];simp;omega,hown4,hB3,?_⟩
                            rw [HM.out,List.length_append,HNm.out]
                            rfl
                          case measure => simp [intOf];omega
                    · have HM := zh (HCM.out.trans (by rw [if_neg h9,if_neg (fun h => hx h.1),dif_pos hjl,hI2,if_pos rfl,CutRes.pre_err _ _ _ (by decide)]))
                      go_wp2_with (first | (go_at_call 55;refine (ref8_letter _ _).mono ?_;rintro e w' ⟨rfl,rfl⟩) | (go_at_call 56;refine (ref8_digit _ _).mono ?_;rintro e w' ⟨rfl,rfl⟩) | (go_at_call 57;refine (ref8_kind _ _).mono ?_;rintro e w' ⟨rfl,rfl⟩) | (go_at_call 58;refine (ref8_inner _ _).mono ?_;rintro e w' ⟨rfl,rfl⟩))
                      go_ret3
                      refine ⟨.slice none 0 0,?_,?_,?_⟩
                      · rw [HC.out,if_neg hbig,HM.out];rfl
                      · rw [HC.out,if_neg hbig,HM.out];exact World.ownsRow_nil _ _ _ _
                      · exact hB.alloc (by omega) _
                  · have hjm' := hst2.1 hI
                    clear hst2 hnumb
                    go_wp2_with (first | (go_at_call 55;refine (ref8_letter _ _).mono ?_;rintro e w' ⟨rfl,rfl⟩) | (go_at_call 56;refine (ref8_digit _ _).mono ?_;rintro e w' ⟨rfl,rfl⟩) | (go_at_call 57;refine (ref8_kind _ _).mono ?_;rintro e w' ⟨rfl,rfl⟩) | (go_at_call 58;refine (ref8_inner _ _).mono ?_;rintro e w' ⟨rfl,rfl⟩))
                    go_round
                    case rel => exact ⟨j + 1,by go_num,by omega,hjm'⟩
                    case measure => simp [intOf];omega
                · have hjm' : j = m := by omega
                  subst hjm'
                  by_cases h9 : j > 9
                  · clear hnumb
                    have HM:=zh (HCM.out.trans (by rw [if_pos h9,CutRes.pre_err _ _ _ (by decide)]))
                    go_wp2_with (first | (go_at_call 55;refine (ref8_letter _ _).mono ?_;rintro e w' ⟨rfl,rfl⟩) | (go_at_call 56;refine (ref8_digit _ _).mono ?_;rintro e w' ⟨rfl,rfl⟩) | (go_at_call 57;refine (ref8_kind _ _).mono ?_;rintro e w' ⟨rfl,rfl⟩) | (go_at_call 58;refine (ref8_inner _ _).mono ?_;rintro e w' ⟨rfl,rfl⟩))
                    go_ret3
                    refine ⟨.slice none 0 0,?_,?_,?_⟩
                    · rw [HC.out,if_neg hbig,HM.out];rfl
                    · rw [HC.out,if_neg hbig,HM.out];exact World.ownsRow_nil _ _ _ _
                    · exact hB.alloc (by omega) _
                  obtain ⟨N,hN0,hNm,hNb,hNs⟩:=hnumb (by omega)
                  have HN0:=zh hN0
                  have HNm:=zh hNm
                  have HNb:=zh hNb
                  have HNs:=zh hNs
                  clear hN0 hNm hNb hNs hnumb
                  by_cases hx : (s[k].toNat : Int) = 48
                  · by_cases h1 : j > 1
                    · have HM := zh (HCM.out.trans (by rw [if_neg h9,if_pos ⟨hx,h1⟩,CutRes.pre_err _ _ _ (by decide)]))
                      go_wp2_with (first | (go_at_call 55;refine (ref8_letter _ _).mono ?_;rintro e w' ⟨rfl,rfl⟩) | (go_at_call 56;refine (ref8_digit _ _).mono ?_;rintro e w' ⟨rfl,rfl⟩) | (go_at_call 57;refine (ref8_kind _ _).mono ?_;rintro e w' ⟨rfl,rfl⟩) | (go_at_call 58;refine (ref8_inner _ _).mono ?_;rintro e w' ⟨rfl,rfl⟩))
                      go_ret3
                      refine ⟨.slice none 0 0,?_,?_,?_⟩
                      · rw [HC.out,if_neg hbig,HM.out];rfl
                      · rw [HC.out,if_neg hbig,HM.out];exact World.ownsRow_nil _ _ _ _
                      · exact hB.alloc (by omega) _
                    have hcm2:=HCM.out.trans (by rw [if_neg h9,if_neg (fun h => h1 h.2),dif_neg hjl,if_neg (by simp),CutRes.pre_cons])
                    have HM:=zh hcm2
                    clear hcm2
                    go_wp2_with (first | (go_at_call 55;refine (ref8_letter _ _).mono ?_;rintro e w' ⟨rfl,rfl⟩) | (go_at_call 56;refine (ref8_digit _ _).mono ?_;rintro e w' ⟨rfl,rfl⟩) | (go_at_call 57;refine (ref8_kind _ _).mono ?_;rintro e w' ⟨rfl,rfl⟩) | (go_at_call 58;refine (ref8_inner _ _).mono ?_;rintro e w' ⟨rfl,rfl⟩))
                    go_loop [10,11] (fun n i => ∃ q : Nat,i = .int .i64 ((k : Int) + q) ∧ q ≤ j ∧ n = .int .i64 (N q)) (fun _ i => s.size - (intOf i).toNat)
                    case atStart => exact ⟨0,by go_num,Nat.zero_le _,by rw [HN0.out]⟩
                    case round =>
                      obtain ⟨q,rfl,hqm,rfl⟩:=hrel
                      have hNq:=HNb.out q
                      by_cases hql : q < j
                      · have hkq : k + q < s.size := by omega
                        obtain ⟨hx1,hx2,hNs⟩:=HNs.out q hkq hql
                        have hNq':=HNb.out (q + 1)
                        have HS:=zh hNs
                        clear hNs
                        go_wp2_with fail
                        go_round
                        case rel => exact ⟨q + 1,by go_num,by omega,val_int (by rw [HS.out];omega)⟩
                        case measure => simp [intOf];omega
                      · obtain rfl : q = j := by omega
                        go_wp2_with (at_builtin;refine wpList_append_own _ rfl _ _ 48 rfl w.heap.size 58 i0 _ 4 40 Try.underlying48 hi hz0 hz1 hz2 rfl (by decide) _ _ _ rfl (((show wr.ownsRow _ _ _ _ _ _ from hown).alloc _).alloc _) ⟨wr.heap.size + 1,0,none⟩ 1 1 [.int .i64 2, .int .i64 k, .int .i64 (N q), .string ⟨#[]⟩] rfl rfl (cells_new _ [.int .i64 2, .int .i64 k, .int .i64 (N q), .string ⟨#[]⟩] _ _ (by simp)) (fun x hx => by simp at hx;rcases hx with rfl | rfl | rfl | rfl <;> rfl) (by unfold maxLen;omega) (by omega) (by simp;omega) ?_;intro v' w3 hown3 hgrow3 _)
                        have hB3 : Below w.heap.size w w3 := by
                          refine below_own ?_ hgrow3 (by simp;omega) (((show wr.ownsRow _ _ _ _ _ _ from hown).alloc _).alloc _) (Nat.le_refl _)
                          exact (hB.alloc (by omega) _).alloc (by simp;omega) _
                        have hown4 : OwnToks w3 w.heap.size v' (acc ++ [⟨2,k,N q,[]⟩]) := by
                          unfold OwnToks
                          rw [List.length_append,List.flatMap_append]
                          exact hown3
                        clear hgrow3 hown3 hown
                        go_roundw
                        case rel =>
                          refine ⟨k + q,acc ++ [⟨2,k,N q,[]⟩],by go_num,by omega,by rw [List.length_append];simp;omega,hown4,hB3,?_⟩
                          rw [HM.out,List.length_append,HNm.out]
                          rfl
                        case measure => simp [intOf];omega
                  have hxb : ((s[k].toNat : Int) == 48) = false:=beq_eq_false_iff_ne.2 hx
                  have hcm2:=HCM.out.trans (by rw [if_neg h9,if_neg (fun h => hx h.1),dif_neg hjl,if_neg (by simp),CutRes.pre_cons])
                  have HM:=zh hcm2
                  clear hcm2
                  go_wp2_with (first | (go_at_call 55;refine (ref8_letter _ _).mono ?_;rintro e w' ⟨rfl,rfl⟩) | (go_at_call 56;refine (ref8_digit _ _).mono ?_;rintro e w' ⟨rfl,rfl⟩) | (go_at_call 57;refine (ref8_kind _ _).mono ?_;rintro e w' ⟨rfl,rfl⟩) | (go_at_call 58;refine (ref8_inner _ _).mono ?_;rintro e w' ⟨rfl,rfl⟩))
                  go_loop [10,11] (fun n i => ∃ q : Nat,i = .int .i64 ((k : Int) + q) ∧ q ≤ j ∧ n = .int .i64 (N q)) (fun _ i => s.size - (intOf i).toNat)
                  case atStart => exact ⟨0,by go_num,Nat.zero_le _,by rw [HN0.out]⟩
                  case round =>
                    obtain ⟨q,rfl,hqm,rfl⟩:=hrel
                    have hNq:=HNb.out q
                    by_cases hql : q < j
                    · have hkq : k + q < s.size := by omega
                      obtain ⟨hx1,hx2,hNs⟩:=HNs.out q hkq hql
                      have hNq':=HNb.out (q + 1)
                      have HS:=zh hNs
                      clear hNs
                      go_wp2_with fail
                      go_round
                      case rel => exact ⟨q + 1,by go_num,by omega,val_int (by rw [HS.out];omega)⟩
                      case measure => simp [intOf];omega
                    · obtain rfl : q = j := by omega
                      go_wp2_with (at_builtin;refine wpList_append_own _ rfl _ _ 48 rfl w.heap.size 58 i0 _ 4 40 Try.underlying48 hi hz0 hz1 hz2 rfl (by decide) _ _ _ rfl (((show wr.ownsRow _ _ _ _ _ _ from hown).alloc _).alloc _) ⟨wr.heap.size + 1,0,none⟩ 1 1 [.int .i64 2, .int .i64 k, .int .i64 (N q), .string ⟨#[]⟩] rfl rfl (cells_new _ [.int .i64 2, .int .i64 k, .int .i64 (N q), .string ⟨#[]⟩] _ _ (by simp)) (fun x hx => by simp at hx;rcases hx with rfl | rfl | rfl | rfl <;> rfl) (by unfold maxLen;omega) (by omega) (by simp;omega) ?_;intro v' w3 hown3 hgrow3 _)
                      have hB3 : Below w.heap.size w w3 := by
                        refine below_own ?_ hgrow3 (by simp;omega) (((show wr.ownsRow _ _ _ _ _ _ from hown).alloc _).alloc _) (Nat.le_refl _)
                        exact (hB.alloc (by omega) _).alloc (by simp;omega) _
                      have hown4 : OwnToks w3 w.heap.size v' (acc ++ [⟨2,k,N q,[]⟩]) := by
                        unfold OwnToks
                        rw [List.length_append,List.flatMap_append]
                        exact hown3
                      clear hgrow3 hown3 hown
                      go_roundw
                      case rel =>
                        refine ⟨k + q,acc ++ [⟨2,k,N q,[]⟩],by go_num,by omega,by rw [List.length_append];simp;omega,hown4,hB3,?_⟩
                        rw [HM.out,List.length_append,HNm.out]
                        rfl
                      case measure => simp [intOf];omega
      · have hkk : k = s.size := by omega
        rw [ba_drop_nil s k (by omega),cutM_nil] at hcm
        have HM:=zh hcm
        clear hcm hkk
        go_wp2_with fail
        go_ret3
        refine ⟨.slice A acc.length c,?_,?_,hB⟩
        · rw [HC.out,if_neg hbig,HM.out];rfl
        · rw [HC.out,if_neg hbig,HM.out];simpa [CutRes.pre] using hown
end Go.Proofs.Ytjbniichcopnlaa
