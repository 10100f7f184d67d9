/- The table of the functions, resolved, for the interpreter. No condition. -/
import Derived.Test.YtmephnenbboecaaAmU
import Derived.Test.YtmephnenbboecaaAmF0
import Derived.Test.YtmephnenbboecaaAmF1
namespace Go.Am.Try
open Go.Proofs Go.Am
set_option maxRecDepth 100000
theorem mixT : Try.prog.follows .mixedOrders = true := by kernel_rfl
theorem ok2 : okC a2.code = true := by kernel_rfl
theorem ok3 : okC a3.code = true := by kernel_rfl
theorem ok4 : okC a4.code = true := by kernel_rfl
theorem ok5 : okC a5.code = true := by kernel_rfl
theorem ok6 : okC a6.code = true := by kernel_rfl
theorem ok7 : okC a7.code = true := by kernel_rfl
theorem ok8 : okC a8.code = true := by kernel_rfl
theorem ok9 : okC a9.code = true := by kernel_rfl
theorem ok10 : okC a10.code = true := by kernel_rfl
theorem ok11 : okC a11.code = true := by kernel_rfl
theorem ok12 : okC a12.code = true := by kernel_rfl
theorem ok13 : okC a13.code = true := by kernel_rfl
theorem ok18 : okC a18.code = true := by kernel_rfl
theorem ok19 : okC a19.code = true := by kernel_rfl
theorem ok20 : okC a20.code = true := by kernel_rfl
theorem ok22 : okC a22.code = true := by kernel_rfl
theorem ok23 : okC a23.code = true := by kernel_rfl
theorem ok24 : okC a24.code = true := by kernel_rfl
theorem ok25 : okC a25.code = true := by kernel_rfl
theorem ok26 : okC a26.code = true := by kernel_rfl
theorem ok27 : okC a27.code = true := by kernel_rfl
theorem ok28 : okC a28.code = true := by kernel_rfl
theorem ok29 : okC a29.code = true := by kernel_rfl
theorem ok30 : okC a30.code = true := by kernel_rfl
theorem ok31 : okC a31.code = true := by kernel_rfl
theorem ok32 : okC a32.code = true := by kernel_rfl
theorem ok35 : okC a35.code = true := by kernel_rfl
theorem ok36 : okC a36.code = true := by kernel_rfl
theorem ok37 : okC a37.code = true := by kernel_rfl
theorem ok38 : okC a38.code = true := by kernel_rfl
theorem ok39 : okC a39.code = true := by kernel_rfl
theorem ok40 : okC a40.code = true := by kernel_rfl
theorem ok41 : okC a41.code = true := by kernel_rfl
theorem ok42 : okC a42.code = true := by kernel_rfl
theorem ok43 : okC a43.code = true := by kernel_rfl
theorem ok44 : okC a44.code = true := by kernel_rfl
theorem ok45 : okC a45.code = true := by kernel_rfl
theorem ok46 : okC a46.code = true := by kernel_rfl
theorem ok48 : okC a48.code = true := by kernel_rfl
theorem ok49 : okC a49.code = true := by kernel_rfl
theorem ok51 : okC a51.code = true := by kernel_rfl
theorem ok52 : okC a52.code = true := by kernel_rfl
theorem ok53 : okC a53.code = true := by kernel_rfl
theorem ok54 : okC a54.code = true := by kernel_rfl
theorem ok55 : okC a55.code = true := by kernel_rfl
theorem ok58 : okC a58.code = true := by kernel_rfl
theorem ok59 : okC a59.code = true := by kernel_rfl
theorem ok60 : okC a60.code = true := by kernel_rfl
theorem ok61 : okC a61.code = true := by kernel_rfl
theorem ok62 : okC a62.code = true := by kernel_rfl
theorem ok63 : okC a63.code = true := by kernel_rfl
theorem ok64 : okC a64.code = true := by kernel_rfl
theorem ok65 : okC a65.code = true := by kernel_rfl
theorem ok66 : okC a66.code = true := by kernel_rfl
theorem ok67 : okC a67.code = true := by kernel_rfl
theorem ok68 : okC a68.code = true := by kernel_rfl
theorem ok69 : okC a69.code = true := by kernel_rfl
theorem ok70 : okC a70.code = true := by kernel_rfl
theorem ok71 : okC a71.code = true := by kernel_rfl
theorem ok74 : okC a74.code = true := by kernel_rfl
theorem ok75 : okC a75.code = true := by kernel_rfl
theorem ok76 : okC a76.code = true := by kernel_rfl
theorem ok77 : okC a77.code = true := by kernel_rfl
theorem ok78 : okC a78.code = true := by kernel_rfl
theorem ok79 : okC a79.code = true := by kernel_rfl
theorem ok80 : okC a80.code = true := by kernel_rfl
theorem ok81 : okC a81.code = true := by kernel_rfl
theorem ok82 : okC a82.code = true := by kernel_rfl
theorem ok83 : okC a83.code = true := by kernel_rfl
theorem ok84 : okC a84.code = true := by kernel_rfl
theorem ok85 : okC a85.code = true := by kernel_rfl
theorem ok86 : okC a86.code = true := by kernel_rfl
theorem ok87 : okC a87.code = true := by kernel_rfl
theorem ok88 : okC a88.code = true := by kernel_rfl
theorem ok89 : okC a89.code = true := by kernel_rfl
theorem ok90 : okC a90.code = true := by kernel_rfl
theorem ok91 : okC a91.code = true := by kernel_rfl
theorem ok92 : okC a92.code = true := by kernel_rfl
theorem ok93 : okC a93.code = true := by kernel_rfl
theorem ok94 : okC a94.code = true := by kernel_rfl
theorem ok95 : okC a95.code = true := by kernel_rfl
theorem ok96 : okC a96.code = true := by kernel_rfl
theorem ok97 : okC a97.code = true := by kernel_rfl
theorem ok98 : okC a98.code = true := by kernel_rfl
def tblL : List (Nat × AFunc) := [(2, a2), (3, a3), (4, a4), (5, a5), (6, a6), (7, a7), (8, a8), (9, a9), (10, a10), (11, a11), (12, a12), (13, a13), (18, a18), (19, a19), (20, a20), (22, a22), (23, a23), (24, a24), (25, a25), (26, a26), (27, a27), (28, a28), (29, a29), (30, a30), (31, a31), (32, a32), (35, a35), (36, a36), (37, a37), (38, a38), (39, a39), (40, a40), (41, a41), (42, a42), (43, a43), (44, a44), (45, a45), (46, a46), (48, a48), (49, a49), (51, a51), (52, a52), (53, a53), (54, a54), (55, a55), (58, a58), (59, a59), (60, a60), (61, a61), (62, a62), (63, a63), (64, a64), (65, a65), (66, a66), (67, a67), (68, a68), (69, a69), (70, a70), (71, a71), (74, a74), (75, a75), (76, a76), (77, a77), (78, a78), (79, a79), (80, a80), (81, a81), (82, a82), (83, a83), (84, a84), (85, a85), (86, a86), (87, a87), (88, a88), (89, a89), (90, a90), (91, a91), (92, a92), (93, a93), (94, a94), (95, a95), (96, a96), (97, a97), (98, a98)]
noncomputable def tbl : Tr AFunc := tblOf tblL (Tr.full 8)
theorem tblOf_get : ∀ (l : List (Nat × AFunc)) (t : Tr AFunc) (f : Nat) (F : AFunc), (tblOf l t).get f = some F → (f, F) ∈ l ∨ t.get f = some F
  | [], t, f, F, h => .inr h
  | (i, G) :: l, t, f, F, h => by
    simp only [tblOf] at h
    split at h
    · rename_i t' ht
      rcases tblOf_get l t' f F h with h1 | h1
      · exact .inl (List.mem_cons_of_mem _ h1)
      · rw [Tr.get_set _ _ _ _ ht f] at h1
        split at h1
        · rename_i hfi; injection h1 with h1; subst h1; subst hfi; exact .inl (List.mem_cons_self ..)
        · exact .inr h1
    · rcases tblOf_get l t f F h with h1 | h1
      · exact .inl (List.mem_cons_of_mem _ h1)
      · exact .inr h1
def Good (p : Nat × AFunc) : Prop := callable Try.prog p.1 = true ∧ compFunc Try.prog p.1 = some p.2 ∧ okC p.2.code = true
theorem good_cons {p : Nat × AFunc} {l : List (Nat × AFunc)} (h : Good p) (hl : ∀ q ∈ l, Good q) : ∀ q ∈ p :: l, Good q := by
  intro q hq
  rcases List.mem_cons.1 hq with h1 | h1
  · subst h1; exact h
  · exact hl q h1
theorem tbl_good : ∀ p ∈ tblL, Good p := by
  unfold tblL
  refine good_cons ⟨callable2, comp2, ok2⟩ ?_
  refine good_cons ⟨callable3, comp3, ok3⟩ ?_
  refine good_cons ⟨callable4, comp4, ok4⟩ ?_
  refine good_cons ⟨callable5, comp5, ok5⟩ ?_
  refine good_cons ⟨callable6, comp6, ok6⟩ ?_
  refine good_cons ⟨callable7, comp7, ok7⟩ ?_
  refine good_cons ⟨callable8, comp8, ok8⟩ ?_
  refine good_cons ⟨callable9, comp9, ok9⟩ ?_
  refine good_cons ⟨callable10, comp10, ok10⟩ ?_
  refine good_cons ⟨callable11, comp11, ok11⟩ ?_
  refine good_cons ⟨callable12, comp12, ok12⟩ ?_
  refine good_cons ⟨callable13, comp13, ok13⟩ ?_
  refine good_cons ⟨callable18, comp18, ok18⟩ ?_
  refine good_cons ⟨callable19, comp19, ok19⟩ ?_
  refine good_cons ⟨callable20, comp20, ok20⟩ ?_
  refine good_cons ⟨callable22, comp22, ok22⟩ ?_
  refine good_cons ⟨callable23, comp23, ok23⟩ ?_
  refine good_cons ⟨callable24, comp24, ok24⟩ ?_
  refine good_cons ⟨callable25, comp25, ok25⟩ ?_
  refine good_cons ⟨callable26, comp26, ok26⟩ ?_
  refine good_cons ⟨callable27, comp27, ok27⟩ ?_
  refine good_cons ⟨callable28, comp28, ok28⟩ ?_
  refine good_cons ⟨callable29, comp29, ok29⟩ ?_
  refine good_cons ⟨callable30, comp30, ok30⟩ ?_
  refine good_cons ⟨callable31, comp31, ok31⟩ ?_
  refine good_cons ⟨callable32, comp32, ok32⟩ ?_
  refine good_cons ⟨callable35, comp35, ok35⟩ ?_
  refine good_cons ⟨callable36, comp36, ok36⟩ ?_
  refine good_cons ⟨callable37, comp37, ok37⟩ ?_
  refine good_cons ⟨callable38, comp38, ok38⟩ ?_
  refine good_cons ⟨callable39, comp39, ok39⟩ ?_
  refine good_cons ⟨callable40, comp40, ok40⟩ ?_
  refine good_cons ⟨callable41, comp41, ok41⟩ ?_
  refine good_cons ⟨callable42, comp42, ok42⟩ ?_
  refine good_cons ⟨callable43, comp43, ok43⟩ ?_
  refine good_cons ⟨callable44, comp44, ok44⟩ ?_
  refine good_cons ⟨callable45, comp45, ok45⟩ ?_
  refine good_cons ⟨callable46, comp46, ok46⟩ ?_
  refine good_cons ⟨callable48, comp48, ok48⟩ ?_
  refine good_cons ⟨callable49, comp49, ok49⟩ ?_
  refine good_cons ⟨callable51, comp51, ok51⟩ ?_
  refine good_cons ⟨callable52, comp52, ok52⟩ ?_
  refine good_cons ⟨callable53, comp53, ok53⟩ ?_
  refine good_cons ⟨callable54, comp54, ok54⟩ ?_
  refine good_cons ⟨callable55, comp55, ok55⟩ ?_
  refine good_cons ⟨callable58, comp58, ok58⟩ ?_
  refine good_cons ⟨callable59, comp59, ok59⟩ ?_
  refine good_cons ⟨callable60, comp60, ok60⟩ ?_
  refine good_cons ⟨callable61, comp61, ok61⟩ ?_
  refine good_cons ⟨callable62, comp62, ok62⟩ ?_
  refine good_cons ⟨callable63, comp63, ok63⟩ ?_
  refine good_cons ⟨callable64, comp64, ok64⟩ ?_
  refine good_cons ⟨callable65, comp65, ok65⟩ ?_
  refine good_cons ⟨callable66, comp66, ok66⟩ ?_
  refine good_cons ⟨callable67, comp67, ok67⟩ ?_
  refine good_cons ⟨callable68, comp68, ok68⟩ ?_
  refine good_cons ⟨callable69, comp69, ok69⟩ ?_
  refine good_cons ⟨callable70, comp70, ok70⟩ ?_
  refine good_cons ⟨callable71, comp71, ok71⟩ ?_
  refine good_cons ⟨callable74, comp74, ok74⟩ ?_
  refine good_cons ⟨callable75, comp75, ok75⟩ ?_
  refine good_cons ⟨callable76, comp76, ok76⟩ ?_
  refine good_cons ⟨callable77, comp77, ok77⟩ ?_
  refine good_cons ⟨callable78, comp78, ok78⟩ ?_
  refine good_cons ⟨callable79, comp79, ok79⟩ ?_
  refine good_cons ⟨callable80, comp80, ok80⟩ ?_
  refine good_cons ⟨callable81, comp81, ok81⟩ ?_
  refine good_cons ⟨callable82, comp82, ok82⟩ ?_
  refine good_cons ⟨callable83, comp83, ok83⟩ ?_
  refine good_cons ⟨callable84, comp84, ok84⟩ ?_
  refine good_cons ⟨callable85, comp85, ok85⟩ ?_
  refine good_cons ⟨callable86, comp86, ok86⟩ ?_
  refine good_cons ⟨callable87, comp87, ok87⟩ ?_
  refine good_cons ⟨callable88, comp88, ok88⟩ ?_
  refine good_cons ⟨callable89, comp89, ok89⟩ ?_
  refine good_cons ⟨callable90, comp90, ok90⟩ ?_
  refine good_cons ⟨callable91, comp91, ok91⟩ ?_
  refine good_cons ⟨callable92, comp92, ok92⟩ ?_
  refine good_cons ⟨callable93, comp93, ok93⟩ ?_
  refine good_cons ⟨callable94, comp94, ok94⟩ ?_
  refine good_cons ⟨callable95, comp95, ok95⟩ ?_
  refine good_cons ⟨callable96, comp96, ok96⟩ ?_
  refine good_cons ⟨callable97, comp97, ok97⟩ ?_
  refine good_cons ⟨callable98, comp98, ok98⟩ ?_
  intro q hq; cases hq
def noX : FuncId → List Value → Option Value := fun _ _ => none
theorem tbl_ok : TblOk Try.prog noX tbl where
  mixed := mixT
  run := fun f F h => by
    rcases tblOf_get _ _ _ _ h with h1 | h1
    · exact tbl_good _ h1
    · rw [Tr.get_full] at h1; cases h1
  ext := fun f args v h => by cases h
end Go.Am.Try
