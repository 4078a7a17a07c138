import Derived.Test.YtbhggmghelmnhaaChecked
import Derived.Test.YtbhggmghelmnhaaClRange
set_option maxHeartbeats 0
set_option maxRecDepth 100000
namespace Go.Inf
open Go Go.Proofs
theorem f3_is (a0 : Option Go.Addr) (l1 : Nat) (c2 : Nat) (a3 : Option Go.Addr) (l4 : Nat) (c5 : Nat) (H : PHeap) (K : Value → PHeap → Prop) : callN Go.Proofs.Try.prog 3 #[(.slice a0 l1 c2), (.slice a3 l4 c5)] H K = (
  CallP Go.Proofs.Try.prog 4 #[] H fun v6 H7 =>
    ∃ q8 : Bool, (v6 = (.bool q8)) ∧
    bCase (!q8)
      (K (.bool false) H7)
      (CallP Go.Proofs.Try.prog 5 #[(.slice a0 l1 c2), (.int IntKind.i64 7)] H7 fun v9 H10 =>
         ∃ q11 : Bool, (v9 = (.bool q11)) ∧
         bCase ((bif (!q11) then true else (decide (((l4 : Nat) : Int) > 20))))
           (K (.bool true) H10)
           (CallP Go.Proofs.Try.prog 6 #[(.slice a3 l4 c5)] H10 fun v12 H13 =>
              ∃ q14 : Bool, (v12 = (.bool q14)) ∧
              bCase (!q14)
                (K (.bool true) H13)
                (∃ J15 : List Go.Value → Go.PHeap → Prop, ∃ mu16 : List Go.Value → Go.PHeap → Nat, (J15 ([(.bool false), (.int IntKind.i64 0)]) H13) ∧
                 ∀ q17 : Bool, ∀ x18 : Int, ∀ H19 : Go.PHeap, (J15 ([(.bool q17), (.int IntKind.i64 x18)]) H19) →
                 bCase ((decide (x18 < ((l1 : Nat) : Int))))
                   (∃ p20 : Go.Addr, (a0 = (some p20)) ∧
                    ((0 : Int) ≤ x18) ∧
                    (x18 < ((l1 : Nat) : Int)) ∧
                    ∃ a21 : Option Go.Addr, ∃ n22 : Nat, ∃ n23 : Nat, ((H19.cell? ((p20.add (((x18).toNat * 1))))) = (some (.slice a21 n22 n23))) ∧
                    CallP Go.Proofs.Try.prog 6 #[(.slice a21 n22 n23)] H19 fun v24 H25 =>
                      ∃ q26 : Bool, (v24 = (.bool q26)) ∧
                      bCase ((bif (!q26) then true else (decide (((n22 : Nat) : Int) > 20))))
                        (K (.bool true) H25)
                        ((J15 ([(.bool q17), (.int IntKind.i64 ((IntKind.i64.wrap (x18 + 1))))]) H25) ∧
                         (mu16 ([(.bool q17), (.int IntKind.i64 ((IntKind.i64.wrap (x18 + 1))))]) H25) < (mu16 ([(.bool q17), (.int IntKind.i64 x18)]) H19)))
                   (CallP Go.Proofs.Try.prog 7 #[(.slice a0 l1 c2)] H19 fun v27 H28 =>
                      ∃ x29 : Int, ∃ q30 : Bool, (v27 = (.tuple (#[(.int IntKind.i64 x29), (.bool q30)]))) ∧
                      ∀ n31 : Nat, ((H28 n31) = none) →
                      ∃ vs32 : List Go.Value, ((vs32.length) = (l1 * 1)) ∧
                      (PHeap.rowAt ((H28.put n31 ((.cells #[] 23 (0, 0))))) a0 vs32) ∧
                      ((Go.singles vs32) = true) ∧
                      (appOk ((H28.put n31 ((.cells #[] 23 (0, 0))))) 1 24 ((some (Addr.mk n31 0 none))) 0 0 l1 vs32) ∧
                      ∀ a33 : Option Go.Addr, ∀ n34 : Nat, ∀ H35 : Go.PHeap, (appRes ((H28.put n31 ((.cells #[] 23 (0, 0))))) 23 1 (#[(.slice none 0 0)]) ((some (Addr.mk n31 0 none))) 0 0 l1 vs32 a33 n34 H35) →
                      ∀ n36 : Nat, ((H35 n36) = none) →
                      ∃ vs37 : List Go.Value, ((vs37.length) = 1) ∧
                      (PHeap.rowAt ((H35.put n36 ((.cells (#[(.slice a3 l4 c5)]) 23 (0, 0))))) ((some (Addr.mk n36 0 none))) vs37) ∧
                      ((Go.singles vs37) = true) ∧
                      (appOk ((H35.put n36 ((.cells (#[(.slice a3 l4 c5)]) 23 (0, 0))))) 1 24 a33 (0 + l1) n34 1 vs37) ∧
                      ∀ a38 : Option Go.Addr, ∀ n39 : Nat, ∀ H40 : Go.PHeap, (appRes ((H35.put n36 ((.cells (#[(.slice a3 l4 c5)]) 23 (0, 0))))) 23 1 (#[(.slice none 0 0)]) a33 (0 + l1) n34 1 vs37 a38 n39 H40) →
                      CallP Go.Proofs.Try.prog 7 #[(.slice a38 (((0 + l1) + 1)) n39)] H40 fun v41 H42 =>
                        ∃ x43 : Int, ∃ q44 : Bool, (v41 = (.tuple (#[(.int IntKind.i64 x43), (.bool q44)]))) ∧
                        ∀ n45 : Nat, ((H42 n45) = none) →
                        ∃ J46 : List Go.Value → Go.PHeap → Prop, ∃ mu47 : List Go.Value → Go.PHeap → Nat, (J46 ([(.slice ((some (Addr.mk n45 0 none))) 1 1), (.int IntKind.i64 ((IntKind.i64.wrap ((((l1 : Nat) : Int) - 1)))))]) ((H42.put n45 ((.cells (#[(.slice a3 l4 c5)]) 23 (0, 0)))))) ∧
                        ∀ a48 : Option Go.Addr, ∀ n49 : Nat, ∀ n50 : Nat, ∀ x51 : Int, ∀ H52 : Go.PHeap, (J46 ([(.slice a48 n49 n50), (.int IntKind.i64 x51)]) H52) →
                        bCase ((decide (x51 ≥ 0)))
                          (∃ p53 : Go.Addr, (a0 = (some p53)) ∧
                           ((0 : Int) ≤ x51) ∧
                           (x51 < ((l1 : Nat) : Int)) ∧
                           ∃ a54 : Option Go.Addr, ∃ n55 : Nat, ∃ n56 : Nat, ((H52.cell? ((p53.add (((x51).toNat * 1))))) = (some (.slice a54 n55 n56))) ∧
                           ∀ n57 : Nat, ((H52 n57) = none) →
                           ∃ vs58 : List Go.Value, ((vs58.length) = 1) ∧
                           (PHeap.rowAt ((H52.put n57 ((.cells (#[(.slice a54 n55 n56)]) 23 (0, 0))))) ((some (Addr.mk n57 0 none))) vs58) ∧
                           ((Go.singles vs58) = true) ∧
                           (appOk ((H52.put n57 ((.cells (#[(.slice a54 n55 n56)]) 23 (0, 0))))) 1 24 a48 n49 n50 1 vs58) ∧
                           ∀ a59 : Option Go.Addr, ∀ n60 : Nat, ∀ H61 : Go.PHeap, (appRes ((H52.put n57 ((.cells (#[(.slice a54 n55 n56)]) 23 (0, 0))))) 23 1 (#[(.slice none 0 0)]) a48 n49 n50 1 vs58 a59 n60 H61) →
                           (J46 ([(.slice a59 (n49 + 1) n60), (.int IntKind.i64 ((IntKind.i64.wrap (x51 - 1))))]) H61) ∧
                           (mu47 ([(.slice a59 (n49 + 1) n60), (.int IntKind.i64 ((IntKind.i64.wrap (x51 - 1))))]) H61) < (mu47 ([(.slice a48 n49 n50), (.int IntKind.i64 x51)]) H52))
                          (CallP Go.Proofs.Try.prog 7 #[(.slice a48 n49 n50)] H52 fun v62 H63 =>
                             ∃ x64 : Int, ∃ q65 : Bool, (v62 = (.tuple (#[(.int IntKind.i64 x64), (.bool q65)]))) ∧
                             bCase ((bif (bif (bif q30 then (bif (!q44) then true else (decide (x43 > x29))) else false) then true else (!(x43 == x64))) then true else (!(q44 == q65))))
                               (K (.bool false) H63)
                               (∀ n66 : Nat, ((H63 n66) = none) →
                                ∃ J67 : List Go.Value → Go.PHeap → Prop, ∃ mu68 : List Go.Value → Go.PHeap → Nat, (J67 ([(.bool q17), (.slice ((some (Addr.mk n66 0 none))) 0 0), (.int IntKind.i64 0)]) ((H63.put n66 ((.cells #[] 23 (0, 0)))))) ∧
                                ∀ q69 : Bool, ∀ a70 : Option Go.Addr, ∀ n71 : Nat, ∀ n72 : Nat, ∀ x73 : Int, ∀ H74 : Go.PHeap, (J67 ([(.bool q69), (.slice a70 n71 n72), (.int IntKind.i64 x73)]) H74) →
                                bCase ((decide (x73 < ((l1 : Nat) : Int))))
                                  (∃ p75 : Go.Addr, (a0 = (some p75)) ∧
                                   ((0 : Int) ≤ x73) ∧
                                   (x73 < ((l1 : Nat) : Int)) ∧
                                   ∃ a76 : Option Go.Addr, ∃ n77 : Nat, ∃ n78 : Nat, ((H74.cell? ((p75.add (((x73).toNat * 1))))) = (some (.slice a76 n77 n78))) ∧
                                   ∀ n79 : Nat, ((H74 n79) = none) →
                                   ∃ J80 : List Go.Value → Go.PHeap → Prop, ∃ mu81 : List Go.Value → Go.PHeap → Nat, (J80 ([(.bool q69), (.slice ((some (Addr.mk n79 0 none))) 0 0), (.int IntKind.i64 0)]) ((H74.put n79 ((.cells #[] 3 (0, 0)))))) ∧
                                   ∀ q82 : Bool, ∀ a83 : Option Go.Addr, ∀ n84 : Nat, ∀ n85 : Nat, ∀ x86 : Int, ∀ H87 : Go.PHeap, (J80 ([(.bool q82), (.slice a83 n84 n85), (.int IntKind.i64 x86)]) H87) →
                                   bCase ((decide (x86 < ((n77 : Nat) : Int))))
                                     (∃ p88 : Go.Addr, (a76 = (some p88)) ∧
                                      ((0 : Int) ≤ x86) ∧
                                      (x86 < ((n77 : Nat) : Int)) ∧
                                      ∃ x89 : Int, ((H87.cell? ((p88.add (((x86).toNat * 1))))) = (some (.int IntKind.i64 x89))) ∧
                                      bCase ((decide (x89 > 1073741824)))
                                        (K (.bool true) H87)
                                        (∀ n90 : Nat, ((H87 n90) = none) →
                                         ∃ vs91 : List Go.Value, ((vs91.length) = 2) ∧
                                         (PHeap.rowAt ((H87.put n90 ((.cells (#[(.int IntKind.i64 ((IntKind.i64.wrap (2 * x89)))), (.int IntKind.i64 ((IntKind.i64.wrap (((IntKind.i64.wrap (2 * x89)) + 1)))))]) 3 (0, 0))))) ((some (Addr.mk n90 0 none))) vs91) ∧
                                         ((Go.singles vs91) = true) ∧
                                         (appOk ((H87.put n90 ((.cells (#[(.int IntKind.i64 ((IntKind.i64.wrap (2 * x89)))), (.int IntKind.i64 ((IntKind.i64.wrap (((IntKind.i64.wrap (2 * x89)) + 1)))))]) 3 (0, 0))))) 1 8 a83 n84 n85 2 vs91) ∧
                                         ∀ a92 : Option Go.Addr, ∀ n93 : Nat, ∀ H94 : Go.PHeap, (appRes ((H87.put n90 ((.cells (#[(.int IntKind.i64 ((IntKind.i64.wrap (2 * x89)))), (.int IntKind.i64 ((IntKind.i64.wrap (((IntKind.i64.wrap (2 * x89)) + 1)))))]) 3 (0, 0))))) 3 1 (#[(.int IntKind.i64 0)]) a83 n84 n85 2 vs91 a92 n93 H94) →
                                         (J80 ([(.bool q82), (.slice a92 (n84 + 2) n93), (.int IntKind.i64 ((IntKind.i64.wrap (x86 + 1))))]) H94) ∧
                                         (mu81 ([(.bool q82), (.slice a92 (n84 + 2) n93), (.int IntKind.i64 ((IntKind.i64.wrap (x86 + 1))))]) H94) < (mu81 ([(.bool q82), (.slice a83 n84 n85), (.int IntKind.i64 x86)]) H87)))
                                     (∀ n95 : Nat, ((H87 n95) = none) →
                                      ∃ vs96 : List Go.Value, ((vs96.length) = 1) ∧
                                      (PHeap.rowAt ((H87.put n95 ((.cells (#[(.slice a83 n84 n85)]) 23 (0, 0))))) ((some (Addr.mk n95 0 none))) vs96) ∧
                                      ((Go.singles vs96) = true) ∧
                                      (appOk ((H87.put n95 ((.cells (#[(.slice a83 n84 n85)]) 23 (0, 0))))) 1 24 a70 n71 n72 1 vs96) ∧
                                      ∀ a97 : Option Go.Addr, ∀ n98 : Nat, ∀ H99 : Go.PHeap, (appRes ((H87.put n95 ((.cells (#[(.slice a83 n84 n85)]) 23 (0, 0))))) 23 1 (#[(.slice none 0 0)]) a70 n71 n72 1 vs96 a97 n98 H99) →
                                      (J67 ([(.bool q82), (.slice a97 (n71 + 1) n98), (.int IntKind.i64 ((IntKind.i64.wrap (x73 + 1))))]) H99) ∧
                                      (mu68 ([(.bool q82), (.slice a97 (n71 + 1) n98), (.int IntKind.i64 ((IntKind.i64.wrap (x73 + 1))))]) H99) < (mu68 ([(.bool q69), (.slice a70 n71 n72), (.int IntKind.i64 x73)]) H74)))
                                  (CallP Go.Proofs.Try.prog 7 #[(.slice a70 n71 n72)] H74 fun v100 H101 =>
                                     ∃ x102 : Int, ∃ q103 : Bool, (v100 = (.tuple (#[(.int IntKind.i64 x102), (.bool q103)]))) ∧
                                     K ((.bool (!q103))) H101)))))))) := by kernel_rfl
theorem f4_is (H : PHeap) (K : Value → PHeap → Prop) : callN Go.Proofs.Try.prog 4 #[] H K = (
  ∀ n0 : Nat, ((H n0) = none) →
  ∀ n1 : Nat, ((H.put n0 ((.cells (#[(.int IntKind.i64 1), (.int IntKind.i64 2), (.int IntKind.i64 3)]) 3 (0, 0))) n1) = none) →
  ∀ n2 : Nat, ((((H.put n0 ((.cells (#[(.int IntKind.i64 1), (.int IntKind.i64 2), (.int IntKind.i64 3)]) 3 (0, 0))))).put n1 ((.cells (#[(.int IntKind.i64 2), (.int IntKind.i64 3)]) 3 (0, 0))) n2) = none) →
  CallP Go.Proofs.Try.prog 7 #[(.slice ((some (Addr.mk n2 0 none))) 2 2)] ((((((H.put n0 ((.cells (#[(.int IntKind.i64 1), (.int IntKind.i64 2), (.int IntKind.i64 3)]) 3 (0, 0))))).put n1 ((.cells (#[(.int IntKind.i64 2), (.int IntKind.i64 3)]) 3 (0, 0))))).put n2 ((.cells (#[(.slice ((some (Addr.mk n0 0 none))) 3 3), (.slice ((some (Addr.mk n1 0 none))) 2 2)]) 23 (0, 0))))) fun v3 H4 =>
    ∃ x5 : Int, ∃ q6 : Bool, (v3 = (.tuple (#[(.int IntKind.i64 x5), (.bool q6)]))) ∧
    ∀ n7 : Nat, ((H4 n7) = none) →
    ∀ n8 : Nat, ((H4.put n7 ((.cells (#[(.int IntKind.i64 1), (.int IntKind.i64 2), (.int IntKind.i64 3)]) 3 (0, 0))) n8) = none) →
    ∀ n9 : Nat, ((((H4.put n7 ((.cells (#[(.int IntKind.i64 1), (.int IntKind.i64 2), (.int IntKind.i64 3)]) 3 (0, 0))))).put n8 ((.cells (#[(.int IntKind.i64 3), (.int IntKind.i64 4), (.int IntKind.i64 5)]) 3 (0, 0))) n9) = none) →
    CallP Go.Proofs.Try.prog 7 #[(.slice ((some (Addr.mk n9 0 none))) 2 2)] ((((((H4.put n7 ((.cells (#[(.int IntKind.i64 1), (.int IntKind.i64 2), (.int IntKind.i64 3)]) 3 (0, 0))))).put n8 ((.cells (#[(.int IntKind.i64 3), (.int IntKind.i64 4), (.int IntKind.i64 5)]) 3 (0, 0))))).put n9 ((.cells (#[(.slice ((some (Addr.mk n7 0 none))) 3 3), (.slice ((some (Addr.mk n8 0 none))) 3 3)]) 23 (0, 0))))) fun v10 H11 =>
      ∃ x12 : Int, ∃ q13 : Bool, (v10 = (.tuple (#[(.int IntKind.i64 x12), (.bool q13)]))) ∧
      bCase ((bif (bif (!(x5 == 1)) then true else (!q6)) then true else q13))
        (K (.bool false) H11)
        (CallP Go.Proofs.Try.prog 8 #[(.int IntKind.i64 2), (.int IntKind.i64 1), (.int IntKind.i64 2)] H11 fun v14 H15 =>
           ∃ x16 : Int, (v14 = (.int IntKind.i64 x16)) ∧
           bCase ((!(x16 == 43)))
             (K (.bool false) H15)
             (CallP Go.Proofs.Try.prog 9 #[(.int IntKind.i64 3), (.int IntKind.i64 1), (.int IntKind.i64 2)] H15 fun v17 H18 =>
                ∃ a19 : Option Go.Addr, ∃ x20 : Int, (v17 = (.tuple (#[(.pointer a19), (.int IntKind.i64 x20)]))) ∧
                bCase ((bif (Option.isNone a19) then true else (!(x20 == 0))))
                  (K (.bool false) H18)
                  (∀ n21 : Nat, ((H18 n21) = none) →
                   CallP Go.Proofs.Try.prog 10 #[(.pointer a19), (.slice ((some (Addr.mk n21 0 none))) 3 3), (.int IntKind.i64 9)] ((H18.put n21 ((.cells (#[(.int IntKind.i64 1), (.int IntKind.i64 2), (.int IntKind.i64 3)]) 3 (0, 0))))) fun v22 H23 =>
                     ∃ x24 : Int, (v22 = (.int IntKind.i64 x24)) ∧
                     ∀ n25 : Nat, ((H23 n25) = none) →
                     CallP Go.Proofs.Try.prog 10 #[(.pointer a19), (.slice ((some (Addr.mk n25 0 none))) 2 2), (.int IntKind.i64 9)] ((H23.put n25 ((.cells (#[(.int IntKind.i64 1), (.int IntKind.i64 2)]) 3 (0, 0))))) fun v26 H27 =>
                       ∃ x28 : Int, (v26 = (.int IntKind.i64 x28)) ∧
                       ∀ n29 : Nat, ((H27 n29) = none) →
                       CallP Go.Proofs.Try.prog 10 #[(.pointer a19), (.slice ((some (Addr.mk n29 0 none))) 3 3), (.int IntKind.i64 9)] ((H27.put n29 ((.cells (#[(.int IntKind.i64 1), (.int IntKind.i64 2), (.int IntKind.i64 4)]) 3 (0, 0))))) fun v30 H31 =>
                         ∃ x32 : Int, (v30 = (.int IntKind.i64 x32)) ∧
                         ∀ n33 : Nat, ((H31 n33) = none) →
                         CallP Go.Proofs.Try.prog 10 #[(.pointer a19), (.slice ((some (Addr.mk n33 0 none))) 3 3), (.int IntKind.i64 9)] ((H31.put n33 ((.cells (#[(.int IntKind.i64 3), (.int IntKind.i64 4), (.int IntKind.i64 5)]) 3 (0, 0))))) fun v34 H35 =>
                           ∃ x36 : Int, (v34 = (.int IntKind.i64 x36)) ∧
                           ∀ n37 : Nat, ((H35 n37) = none) →
                           CallP Go.Proofs.Try.prog 10 #[(.pointer a19), (.slice ((some (Addr.mk n37 0 none))) 3 3), (.int IntKind.i64 9)] ((H35.put n37 ((.cells (#[(.int IntKind.i64 6), (.int IntKind.i64 7), (.int IntKind.i64 8)]) 3 (0, 0))))) fun v38 H39 =>
                             ∃ x40 : Int, (v38 = (.int IntKind.i64 x40)) ∧
                             bCase ((bif (bif (bif (bif (x24 == 0) then (x28 == 34) else false) then (x32 == 35) else false) then (x36 == 0) else false) then (x40 == 33) else false))
                               (CallP Go.Proofs.Try.prog 11 #[(.pointer a19)] H39 fun v41 H42 =>
                                  ∃ x43 : Int, (v41 = (.int IntKind.i64 x43)) ∧
                                  bCase (x43 == 0)
                                    (CallP Go.Proofs.Try.prog 12 #[(.pointer a19), (.int IntKind.i64 9)] H42 fun v44 H45 =>
                                       ∃ a46 : Option Go.Addr, ∃ n47 : Nat, ∃ n48 : Nat, (v44 = (.slice a46 n47 n48)) ∧
                                       bCase ((((n47 : Nat) : Int) == 2))
                                         (CallP Go.Proofs.Try.prog 8 #[(.int IntKind.i64 3), (.int IntKind.i64 1), (.int IntKind.i64 2)] H45 fun v49 H50 =>
                                            ∃ x51 : Int, (v49 = (.int IntKind.i64 x51)) ∧
                                            K ((.bool (x51 == 0))) H50)
                                         (K (.bool false) H45))
                                    (K (.bool false) H42))
                               (K (.bool false) H39))))) := by kernel_rfl
theorem f12_n0 (a0 : Option Go.Addr) (x1 : Int) (n2 : Nat) (n3 : Nat) (n4 : Nat) (n5 : Nat) (x7 : Int) (v14 : Go.Value) (d : Nat) (H2 : PHeap) (K : Value → PHeap → Prop) : behindW Go.Proofs.Try.prog 12 0 K .normal (ofL [(0, (.pointer a0)), (1, (.int IntKind.i64 x1)), (3, (.pointer ((some (Addr.mk n2 0 none))))), (4, (.pointer ((some (Addr.mk n3 0 none))))), (5, (.pointer ((some (Addr.mk n5 0 none))))), (7, (.slice ((some (Addr.mk n4 0 none))) 0 0)), (8, (.int IntKind.i64 x7)), (9, (.bool ((decide (x7 ≤ 0))))), (11, (.pointer a0)), (12, v14)]) (d :: []) H2 = (
  ∃ a15 : Option Go.Addr, ∃ n16 : Nat, ∃ n17 : Nat, ((H2.cell? (Addr.mk n5 0 none)) = (some (.slice a15 n16 n17))) ∧
  ∃ H18 : Go.PHeap, (PHeap.storeTo H2 (Addr.mk n3 0 none) ([(.slice a15 n16 n17)]) H18) ∧
  endW Go.Proofs.Try.prog 12 K (ofL [(0, (.pointer a0)), (1, (.int IntKind.i64 x1)), (3, (.pointer ((some (Addr.mk n2 0 none))))), (4, (.pointer ((some (Addr.mk n3 0 none))))), (5, (.pointer ((some (Addr.mk n5 0 none))))), (7, (.slice ((some (Addr.mk n4 0 none))) 0 0)), (8, (.int IntKind.i64 x7)), (9, (.bool ((decide (x7 ≤ 0))))), (11, (.pointer a0)), (12, v14), (23, (.slice a15 n16 n17))]) [d] H18) := by kernel_rfl

theorem f12_t0 (a0 : Option Go.Addr) (x1 : Int) (n2 : Nat) (n3 : Nat) (n4 : Nat) (n5 : Nat) (x7 : Int) (v14 : Go.Value) (d : Nat) (H2 : PHeap) (K : Value → PHeap → Prop) : behindW Go.Proofs.Try.prog 12 0 K .ret (ofL [(0, (.pointer a0)), (1, (.int IntKind.i64 x1)), (3, (.pointer ((some (Addr.mk n2 0 none))))), (4, (.pointer ((some (Addr.mk n3 0 none))))), (5, (.pointer ((some (Addr.mk n5 0 none))))), (7, (.slice ((some (Addr.mk n4 0 none))) 0 0)), (8, (.int IntKind.i64 x7)), (9, (.bool ((decide (x7 ≤ 0))))), (11, (.pointer a0)), (12, v14)]) (d :: []) H2 = (
  endW Go.Proofs.Try.prog 12 K (ofL [(0, (.pointer a0)), (1, (.int IntKind.i64 x1)), (3, (.pointer ((some (Addr.mk n2 0 none))))), (4, (.pointer ((some (Addr.mk n3 0 none))))), (5, (.pointer ((some (Addr.mk n5 0 none))))), (7, (.slice ((some (Addr.mk n4 0 none))) 0 0)), (8, (.int IntKind.i64 x7)), (9, (.bool ((decide (x7 ≤ 0))))), (11, (.pointer a0)), (12, v14)]) [d] H2) := by kernel_rfl

theorem f12_r0 (a0 : Option Go.Addr) (x1 : Int) (n2 : Nat) (n3 : Nat) (n4 : Nat) (n5 : Nat) (x7 : Int) (v14 : Go.Value) (a19 : Option Go.Addr) (l20 : Nat) (c21 : Nat) (l : Nat) (L : LoopState → Option Code → Obj) (H1 : PHeap) (K1 : Value → PHeap → Prop) : roundW Go.Proofs.Try.prog 12 0 l L (setW (ofL [(0, (.pointer a0)), (1, (.int IntKind.i64 x1)), (3, (.pointer ((some (Addr.mk n2 0 none))))), (4, (.pointer ((some (Addr.mk n3 0 none))))), (5, (.pointer ((some (Addr.mk n5 0 none))))), (7, (.slice ((some (Addr.mk n4 0 none))) 0 0)), (8, (.int IntKind.i64 x7)), (9, (.bool ((decide (x7 ≤ 0))))), (11, (.pointer a0)), (12, v14)]) [13] [(.slice a19 l20 c21)]) H1 K1 = (
  (Exit.normal = Exit.normal) ∧
  ((([] : List Nat) = [])) ∧
  ((H1 l) = (some (L .ready none))) ∧
  ∃ a22 : Option Go.Addr, ∃ n23 : Nat, ∃ n24 : Nat, ((((H1.put l (L .busy none))).cell? (Addr.mk n5 0 none)) = (some (.slice a22 n23 n24))) ∧
  ∀ n25 : Nat, ((H1.put l (L .busy none) n25) = none) →
  ∃ vs26 : List Go.Value, ((vs26.length) = 1) ∧
  (PHeap.rowAt ((((H1.put l (L .busy none))).put n25 ((.cells (#[(.slice a19 l20 c21)]) 23 (0, 0))))) ((some (Addr.mk n25 0 none))) vs26) ∧
  ((Go.singles vs26) = true) ∧
  (appOk ((((H1.put l (L .busy none))).put n25 ((.cells (#[(.slice a19 l20 c21)]) 23 (0, 0))))) 1 24 a22 n23 n24 1 vs26) ∧
  ∀ a27 : Option Go.Addr, ∀ n28 : Nat, ∀ H29 : Go.PHeap, (appRes ((((H1.put l (L .busy none))).put n25 ((.cells (#[(.slice a19 l20 c21)]) 23 (0, 0))))) 23 1 (#[(.slice none 0 0)]) a22 n23 n24 1 vs26 a27 n28 H29) →
  ∃ H30 : Go.PHeap, (PHeap.storeTo H29 (Addr.mk n5 0 none) ([(.slice a27 (n23 + 1) n28)]) H30) ∧
  ∃ a31 : Option Go.Addr, ∃ n32 : Nat, ∃ n33 : Nat, ((H30.cell? (Addr.mk n5 0 none)) = (some (.slice a31 n32 n33))) ∧
  ∃ x34 : Int, ((H30.cell? (Addr.mk n2 0 none)) = (some (.int IntKind.i64 x34))) ∧
  bCase ((((n32 : Nat) : Int) == x34))
    (∃ a35 : Option Go.Addr, ∃ n36 : Nat, ∃ n37 : Nat, ((H30.cell? (Addr.mk n5 0 none)) = (some (.slice a35 n36 n37))) ∧
     ∃ H38 : Go.PHeap, (PHeap.storeTo H30 (Addr.mk n3 0 none) ([(.slice a35 n36 n37)]) H38) ∧
     (∃ st39 : Go.LoopState, ∃ a40 : Option Go.Code, (H38 l) = (some (L st39 a40))) ∧
     K1 (.bool false) ((H38.put l ((L .done (some .ret))))))
    ((∃ st41 : Go.LoopState, ∃ a42 : Option Go.Code, (H30 l) = (some (L st41 a42))) ∧
     K1 (.bool true) ((H30.put l (L .ready none))))) := by kernel_rfl

theorem f12_is (a0 : Option Go.Addr) (x1 : Int) (H : PHeap) (K : Value → PHeap → Prop) : callN Go.Proofs.Try.prog 12 #[(.pointer a0), (.int IntKind.i64 x1)] H K = (
  ∀ n2 : Nat, ((H n2) = none) →
  ∀ n3 : Nat, ((H.put n2 ((.cells (#[(.int IntKind.i64 x1)]) 3 (0, 0))) n3) = none) →
  ∀ n4 : Nat, ((((H.put n2 ((.cells (#[(.int IntKind.i64 x1)]) 3 (0, 0))))).put n3 ((.cells (#[(.slice none 0 0)]) 22 (0, 0))) n4) = none) →
  ∀ n5 : Nat, ((((((H.put n2 ((.cells (#[(.int IntKind.i64 x1)]) 3 (0, 0))))).put n3 ((.cells (#[(.slice none 0 0)]) 22 (0, 0))))).put n4 ((.cells #[] 23 (0, 0))) n5) = none) →
  ∃ H6 : Go.PHeap, (PHeap.storeTo ((((((((H.put n2 ((.cells (#[(.int IntKind.i64 x1)]) 3 (0, 0))))).put n3 ((.cells (#[(.slice none 0 0)]) 22 (0, 0))))).put n4 ((.cells #[] 23 (0, 0))))).put n5 ((.cells (#[(.slice none 0 0)]) 22 (0, 0))))) (Addr.mk n5 0 none) ([(.slice ((some (Addr.mk n4 0 none))) 0 0)]) H6) ∧
  ∃ x7 : Int, ((H6.cell? (Addr.mk n2 0 none)) = (some (.int IntKind.i64 x7))) ∧
  bCase ((decide (x7 ≤ 0)))
    (∃ a8 : Option Go.Addr, ∃ n9 : Nat, ∃ n10 : Nat, ((H6.cell? (Addr.mk n5 0 none)) = (some (.slice a8 n9 n10))) ∧
     ∃ H11 : Go.PHeap, (PHeap.storeTo H6 (Addr.mk n3 0 none) ([(.slice a8 n9 n10)]) H11) ∧
     endW Go.Proofs.Try.prog 12 K (ofL [(0, (.pointer a0)), (1, (.int IntKind.i64 x1)), (3, (.pointer ((some (Addr.mk n2 0 none))))), (4, (.pointer ((some (Addr.mk n3 0 none))))), (5, (.pointer ((some (Addr.mk n5 0 none))))), (7, (.slice ((some (Addr.mk n4 0 none))) 0 0)), (8, (.int IntKind.i64 x7)), (9, (.bool ((decide (x7 ≤ 0))))), (10, (.slice a8 n9 n10))]) [] H11)
    (CallP Go.Proofs.Try.prog 21 #[(.pointer a0)] H6 fun v12 H13 =>
       ∃ v14 : Go.Value, (v12 = v14) ∧
       rangeV Go.Proofs.Try.prog 12 0 v14 (ofL [(0, (.pointer a0)), (1, (.int IntKind.i64 x1)), (3, (.pointer ((some (Addr.mk n2 0 none))))), (4, (.pointer ((some (Addr.mk n3 0 none))))), (5, (.pointer ((some (Addr.mk n5 0 none))))), (7, (.slice ((some (Addr.mk n4 0 none))) 0 0)), (8, (.int IntKind.i64 x7)), (9, (.bool ((decide (x7 ≤ 0))))), (11, (.pointer a0)), (12, v14)]) [] H13 K)) := by kernel_rfl
theorem f36_is (l0 : Nat) (p1 : Go.Addr) (H : PHeap) (K : Value → PHeap → Prop) : callN Go.Proofs.Try.prog 36 #[(.func (.yield l0) #[] #[]), (.pointer (some p1))] H K = (
  ∃ a2 : Option Go.Addr, ((H.cell? p1) = (some (.pointer a2))) ∧
  ∃ p3 : Go.Addr, (a2 = (some p3)) ∧
  ∃ a4 : Option Go.Addr, ∃ n5 : Nat, ∃ n6 : Nat, ((H.cell? (p3.add 0)) = (some (.slice a4 n5 n6))) ∧
  ∃ J7 : List Go.Value → Go.PHeap → Prop, ∃ mu8 : List Go.Value → Go.PHeap → Nat, (J7 ([(.int IntKind.i64 0)]) H) ∧
  ∀ x9 : Int, ∀ H10 : Go.PHeap, (J7 ([(.int IntKind.i64 x9)]) H10) →
  bCase ((decide (x9 < ((n5 : Nat) : Int))))
    (∃ p11 : Go.Addr, (a4 = (some p11)) ∧
     ((0 : Int) ≤ x9) ∧
     (x9 < ((n5 : Nat) : Int)) ∧
     ∃ a12 : Option Go.Addr, ∃ n13 : Nat, ∃ n14 : Nat, ((H10.cell? ((p11.add (((x9).toNat * 1))))) = (some (.slice a12 n13 n14))) ∧
     CallP Go.Proofs.Try.prog 28 #[(.slice a12 n13 n14)] H10 fun v15 H16 =>
       ∃ a17 : Option Go.Addr, ∃ n18 : Nat, ∃ n19 : Nat, (v15 = (.slice a17 n18 n19)) ∧
       YieldP Go.Proofs.Try.prog l0 #[(.slice a17 n18 n19)] H16 fun v20 H21 =>
         ∃ q22 : Bool, (v20 = (.bool q22)) ∧
         bCase (!q22)
           (K (.tuple #[]) H21)
           ((J7 ([(.int IntKind.i64 ((IntKind.i64.wrap (x9 + 1))))]) H21) ∧
            (mu8 ([(.int IntKind.i64 ((IntKind.i64.wrap (x9 + 1))))]) H21) < (mu8 ([(.int IntKind.i64 x9)]) H10)))
    (K (.tuple #[]) H10)) := by kernel_rfl
end Go.Inf
