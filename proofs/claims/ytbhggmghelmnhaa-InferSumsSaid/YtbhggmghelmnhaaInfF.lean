import Derived.Test.YtbhggmghelmnhaaChecked
import Derived.Test.YtbhggmghelmnhaaClNiceCode
set_option maxHeartbeats 0
set_option maxRecDepth 100000
namespace Go.Inf
open Go Go.Proofs
theorem f5_is (a0 : Option Go.Addr) (l1 : Nat) (c2 : Nat) (x3 : Int) (H : PHeap) (K : Value → PHeap → Prop) : callN Go.Proofs.Try.prog 5 #[(.slice a0 l1 c2), (.int IntKind.i64 x3)] H K = (
  ∃ J4 : List Go.Value → Go.PHeap → Prop, ∃ mu5 : List Go.Value → Go.PHeap → Nat, (J4 ([(.bool false), (.int IntKind.i64 0)]) H) ∧
  ∀ q6 : Bool, ∀ x7 : Int, ∀ H8 : Go.PHeap, (J4 ([(.bool q6), (.int IntKind.i64 x7)]) H8) →
  bCase ((decide (x7 < ((l1 : Nat) : Int))))
    (∃ p9 : Go.Addr, (a0 = (some p9)) ∧
     (0 ≤ x7) ∧
     (x7 < ((l1 : Nat) : Int)) ∧
     ∃ a10 : Option Go.Addr, ∃ n11 : Nat, ∃ n12 : Nat, ((H8.cell? ((p9.add (((x7).toNat * 1))))) = (some (.slice a10 n11 n12))) ∧
     bCase ((decide (((n11 : Nat) : Int) > 40)))
       (K (.bool false) H8)
       ((J4 ([(.bool q6), (.int IntKind.i64 ((IntKind.i64.wrap (x7 + 1))))]) H8) ∧
        (mu5 ([(.bool q6), (.int IntKind.i64 ((IntKind.i64.wrap (x7 + 1))))]) H8) < (mu5 ([(.bool q6), (.int IntKind.i64 x7)]) H8)))
    (K ((.bool ((decide (((l1 : Nat) : Int) ≤ x3))))) H8)) := by kernel_rfl

theorem f6_is (a0 : Option Go.Addr) (l1 : Nat) (c2 : Nat) (H : PHeap) (K : Value → PHeap → Prop) : callN Go.Proofs.Try.prog 6 #[(.slice a0 l1 c2)] H K = (
  ∃ J3 : List Go.Value → Go.PHeap → Prop, ∃ mu4 : List Go.Value → Go.PHeap → Nat, (J3 ([(.bool false), (.int IntKind.i64 0), (.int IntKind.i64 0)]) H) ∧
  ∀ q5 : Bool, ∀ x6 : Int, ∀ x7 : Int, ∀ H8 : Go.PHeap, (J3 ([(.bool q5), (.int IntKind.i64 x6), (.int IntKind.i64 x7)]) H8) →
  bCase ((decide (x7 < ((l1 : Nat) : Int))))
    (∃ p9 : Go.Addr, (a0 = (some p9)) ∧
     ((0 : Int) ≤ x7) ∧
     (x7 < ((l1 : Nat) : Int)) ∧
     ∃ x10 : Int, ((H8.cell? ((p9.add (((x7).toNat * 1))))) = (some (.int IntKind.i64 x10))) ∧
     bCase ((decide (x10 ≤ x6)))
       (K (.bool false) H8)
       ((J3 ([(.bool q5), (.int IntKind.i64 x10), (.int IntKind.i64 ((IntKind.i64.wrap (x7 + 1))))]) H8) ∧
        (mu4 ([(.bool q5), (.int IntKind.i64 x10), (.int IntKind.i64 ((IntKind.i64.wrap (x7 + 1))))]) H8) < (mu4 ([(.bool q5), (.int IntKind.i64 x6), (.int IntKind.i64 x7)]) H8)))
    (K (.bool true) H8)) := by kernel_rfl

theorem f7_is (a0 : Option Go.Addr) (l1 : Nat) (c2 : Nat) (H : PHeap) (K : Value → PHeap → Prop) : callN Go.Proofs.Try.prog 7 #[(.slice a0 l1 c2)] H K = (
  bCase ((decide (((l1 : Nat) : Int) > 8)))
    (K ((.tuple (#[(.int IntKind.i64 0), (.bool false)]))) H)
    (CallP Go.Proofs.Try.prog 13 #[(.slice a0 l1 c2), (.func (.func 14) #[] #[])] H fun v3 H4 =>
       ∃ q5 : Bool, (v3 = (.bool q5)) ∧
       bCase q5
         (K ((.tuple (#[(.int IntKind.i64 0), (.bool false)]))) H4)
         (CallP Go.Proofs.Try.prog 15 #[(.slice a0 l1 c2)] H4 fun v6 H7 =>
            ∃ a8 : Option Go.Addr, ∃ n9 : Nat, ∃ n10 : Nat, ∃ a11 : Option Go.Addr, ∃ n12 : Nat, ∃ n13 : Nat, (v6 = (.tuple (#[(.slice a8 n9 n10), (.slice a11 n12 n13)]))) ∧
            CallP Go.Proofs.Try.prog 16 #[(.slice a8 n9 n10), (.int IntKind.i64 (((n12 : Nat) : Int)))] H7 fun v14 H15 =>
              ∃ a16 : Option Go.Addr, ∃ n17 : Nat, ∃ n18 : Nat, (v14 = (.slice a16 n17 n18)) ∧
              ∃ J19 : List Go.Value → Go.PHeap → Prop, ∃ mu20 : List Go.Value → Go.PHeap → Nat, (J19 ([(.int IntKind.i64 0), (.bool false), (.int IntKind.i64 0)]) H15) ∧
              ∀ x21 : Int, ∀ q22 : Bool, ∀ x23 : Int, ∀ H24 : Go.PHeap, (J19 ([(.int IntKind.i64 x21), (.bool q22), (.int IntKind.i64 x23)]) H24) →
              bCase ((decide (x23 < ((n17 : Nat) : Int))))
                (∃ p25 : Go.Addr, (a16 = (some p25)) ∧
                 (0 ≤ x23) ∧
                 (x23 < ((n17 : Nat) : Int)) ∧
                 ∃ a26 : Option Go.Addr, ∃ n27 : Nat, ∃ n28 : Nat, ((H24.cell? ((p25.add (((x23).toNat * 1))))) = (some (.slice a26 n27 n28))) ∧
                 CallP Go.Proofs.Try.prog 17 #[(.slice a26 n27 n28)] H24 fun v29 H30 =>
                   ∃ x31 : Int, (v29 = (.int IntKind.i64 x31)) ∧
                   bCase ((decide (x31 ≥ 0)))
                     (∃ p32 : Go.Addr, (a11 = (some p32)) ∧
                      (0 ≤ x31) ∧
                      (x31 < ((n12 : Nat) : Int)) ∧
                      ∃ x33 : Int, ((H30.cell? ((p32.add (((x31).toNat * 1))))) = (some (.int IntKind.i64 x33))) ∧
                      K ((.tuple (#[(.int IntKind.i64 x33), (.bool true)]))) H30)
                     ((J19 ([(.int IntKind.i64 x21), (.bool q22), (.int IntKind.i64 ((IntKind.i64.wrap (x23 + 1))))]) H30) ∧
                      (mu20 ([(.int IntKind.i64 x21), (.bool q22), (.int IntKind.i64 ((IntKind.i64.wrap (x23 + 1))))]) H30) < (mu20 ([(.int IntKind.i64 x21), (.bool q22), (.int IntKind.i64 x23)]) H24)))
                (K ((.tuple (#[(.int IntKind.i64 0), (.bool false)]))) H24)))) := by kernel_rfl

theorem f8_is (x0 : Int) (x1 : Int) (x2 : Int) (H : PHeap) (K : Value → PHeap → Prop) : callN Go.Proofs.Try.prog 8 #[(.int IntKind.i64 x0), (.int IntKind.i64 x1), (.int IntKind.i64 x2)] H K = (
  bCase ((bif (bif (bif (bif (bif (bif (decide (x0 < 1)) then true else (decide (x0 > 4096))) then true else (decide (x1 < 0))) then true else (decide (x1 > 4096))) then true else (decide (x2 < 0))) then true else (decide (x2 > 4096))) then true else (decide ((IntKind.i64.wrap (((IntKind.i64.wrap (x2 - 1)) * x1))) ≥ (IntKind.i64.wrap (x0 - 1))))))
    (K (.int IntKind.i64 43) H)
    (K (.int IntKind.i64 0) H)) := by kernel_rfl

theorem f9_is (x0 : Int) (x1 : Int) (x2 : Int) (H : PHeap) (K : Value → PHeap → Prop) : callN Go.Proofs.Try.prog 9 #[(.int IntKind.i64 x0), (.int IntKind.i64 x1), (.int IntKind.i64 x2)] H K = (
  CallP Go.Proofs.Try.prog 8 #[(.int IntKind.i64 x0), (.int IntKind.i64 x1), (.int IntKind.i64 x2)] H fun v3 H4 =>
    ∃ x5 : Int, (v3 = (.int IntKind.i64 x5)) ∧
    bCase ((!(x5 == 0)))
      (K ((.tuple (#[(.pointer none), (.int IntKind.i64 x5)]))) H4)
      (∀ n6 : Nat, ((H4 n6) = none) →
       K ((.tuple (#[(.pointer ((some (Addr.mk n6 0 none)))), (.int IntKind.i64 0)]))) ((H4.put n6 ((.cells (#[(.int IntKind.i64 x0), (.int IntKind.i64 x1), (.int IntKind.i64 x2), (.slice none 0 0)]) 48 (0, 0))))))) := by kernel_rfl

theorem f10_is (a0 : Option Go.Addr) (a1 : Option Go.Addr) (l2 : Nat) (c3 : Nat) (x4 : Int) (H : PHeap) (K : Value → PHeap → Prop) : callN Go.Proofs.Try.prog 10 #[(.pointer a0), (.slice a1 l2 c3), (.int IntKind.i64 x4)] H K = (
  CallP Go.Proofs.Try.prog 6 #[(.slice a1 l2 c3)] H fun v5 H6 =>
    ∃ q7 : Bool, (v5 = (.bool q7)) ∧
    bCase (!q7)
      (K (.int IntKind.i64 21) H6)
      (CallP Go.Proofs.Try.prog 11 #[(.pointer a0)] H6 fun v8 H9 =>
         ∃ x10 : Int, (v8 = (.int IntKind.i64 x10)) ∧
         bCase (x10 == 0)
           (K (.int IntKind.i64 33) H9)
           (∃ p11 : Go.Addr, (a0 = (some p11)) ∧
            ∃ x12 : Int, ((H9.cell? (p11.add 0)) = (some (.int IntKind.i64 x12))) ∧
            bCase ((decide (((l2 : Nat) : Int) < x12)))
              (K (.int IntKind.i64 34) H9)
              (∃ p13 : Go.Addr, (a0 = (some p13)) ∧
               ∃ x14 : Int, ((H9.cell? (p13.add 0)) = (some (.int IntKind.i64 x14))) ∧
               bCase ((decide (x4 < x14)))
                 (K (.int IntKind.i64 34) H9)
                 (∃ p15 : Go.Addr, (a0 = (some p15)) ∧
                  ∃ x16 : Int, ((H9.cell? (p15.add 0)) = (some (.int IntKind.i64 x16))) ∧
                  bCase ((decide (((l2 : Nat) : Int) > (IntKind.i64.wrap (x4 - x16)))))
                    (K (.int IntKind.i64 34) H9)
                    (∃ p17 : Go.Addr, (a0 = (some p17)) ∧
                     ∃ p18 : Go.Addr, (a0 = (some p18)) ∧
                     ∃ x19 : Int, ((H9.cell? (p18.add 1)) = (some (.int IntKind.i64 x19))) ∧
                     CallP Go.Proofs.Try.prog 18 #[(.pointer ((some (p17.add 3)))), (.slice a1 l2 c3), (.int IntKind.i64 x19)] H9 fun v20 H21 =>
                       ∃ x22 : Int, (v20 = (.int IntKind.i64 x22)) ∧
                       bCase ((!(x22 == 0)))
                         (K (.int IntKind.i64 x22) H21)
                         (∃ p23 : Go.Addr, (a0 = (some p23)) ∧
                          CallP Go.Proofs.Try.prog 19 #[(.pointer ((some (p23.add 3)))), (.slice a1 l2 c3)] H21 fun v24 H25 =>
                            ∃ x26 : Int, (v24 = (.int IntKind.i64 x26)) ∧
                            K (.int IntKind.i64 x26) H25))))))) := by kernel_rfl

theorem f11_is (a0 : Option Go.Addr) (H : PHeap) (K : Value → PHeap → Prop) : callN Go.Proofs.Try.prog 11 #[(.pointer a0)] H K = (
  ∃ p1 : Go.Addr, (a0 = (some p1)) ∧
  ∃ x2 : Int, ((H.cell? (p1.add 2)) = (some (.int IntKind.i64 x2))) ∧
  ∃ p3 : Go.Addr, (a0 = (some p3)) ∧
  CallP Go.Proofs.Try.prog 20 #[(.pointer ((some (p3.add 3))))] H fun v4 H5 =>
    ((H5.cell? (p1.add 2)) = (some (.int IntKind.i64 x2))) ∧
    ∃ x6 : Int, (v4 = (.int IntKind.i64 x6)) ∧
    K ((.int IntKind.i64 ((IntKind.i64.wrap (x2 - x6))))) H5) := by kernel_rfl

theorem f13_is (a0 : Option Go.Addr) (l1 : Nat) (c2 : Nat) (g3 : Nat) (first4 : Array Go.Value) (cap5 : Array Go.Value) (H : PHeap) (K : Value → PHeap → Prop) : callN Go.Proofs.Try.prog 13 #[(.slice a0 l1 c2), (.func (.func g3) first4 cap5)] H K = (
  CallP Go.Proofs.Try.prog 22 #[(.slice a0 l1 c2), (.func (.func g3) first4 cap5)] H fun v6 H7 =>
    ∃ x8 : Int, (v6 = (.int IntKind.i64 x8)) ∧
    K ((.bool ((decide (x8 ≥ 0))))) H7) := by kernel_rfl

theorem f14_is (a0 : Option Go.Addr) (l1 : Nat) (c2 : Nat) (H : PHeap) (K : Value → PHeap → Prop) : callN Go.Proofs.Try.prog 14 #[(.slice a0 l1 c2)] H K = (
  CallP Go.Proofs.Try.prog 6 #[(.slice a0 l1 c2)] H fun v3 H4 =>
    ∃ q5 : Bool, (v3 = (.bool q5)) ∧
    K ((.bool (!q5))) H4) := by kernel_rfl

theorem f15_is (a0 : Option Go.Addr) (l1 : Nat) (c2 : Nat) (H : PHeap) (K : Value → PHeap → Prop) : callN Go.Proofs.Try.prog 15 #[(.slice a0 l1 c2)] H K = (
  ∃ J3 : List Go.Value → Go.PHeap → Prop, ∃ mu4 : List Go.Value → Go.PHeap → Nat, (J3 ([(.slice none 0 0), (.int IntKind.i64 0)]) H) ∧
  ∀ a5 : Option Go.Addr, ∀ n6 : Nat, ∀ n7 : Nat, ∀ x8 : Int, ∀ H9 : Go.PHeap, (J3 ([(.slice a5 n6 n7), (.int IntKind.i64 x8)]) H9) →
  bCase ((decide (x8 < ((l1 : Nat) : Int))))
    (∃ p10 : Go.Addr, (a0 = (some p10)) ∧
     ((0 : Int) ≤ x8) ∧
     (x8 < ((l1 : Nat) : Int)) ∧
     ∃ a11 : Option Go.Addr, ∃ n12 : Nat, ∃ n13 : Nat, ((H9.cell? ((p10.add (((x8).toNat * 1))))) = (some (.slice a11 n12 n13))) ∧
     ∃ vs14 : List Go.Value, ((vs14.length) = (n12 * 1)) ∧
     (PHeap.rowAt H9 a11 vs14) ∧
     ((Go.singles vs14) = true) ∧
     (appOk H9 1 8 a5 n6 n7 n12 vs14) ∧
     ∀ a15 : Option Go.Addr, ∀ n16 : Nat, ∀ H17 : Go.PHeap, (appRes H9 3 1 (#[(.int IntKind.i64 0)]) a5 n6 n7 n12 vs14 a15 n16 H17) →
     (J3 ([(.slice a15 (n6 + n12) n16), (.int IntKind.i64 ((IntKind.i64.wrap (x8 + 1))))]) H17) ∧
     (mu4 ([(.slice a15 (n6 + n12) n16), (.int IntKind.i64 ((IntKind.i64.wrap (x8 + 1))))]) H17) < (mu4 ([(.slice a5 n6 n7), (.int IntKind.i64 x8)]) H9))
    (CallP Go.Proofs.Try.prog 23 #[(.slice a5 n6 n7)] H9 fun v18 H19 =>
       (v18 = (.tuple #[])) ∧
       CallP Go.Proofs.Try.prog 24 #[(.slice a5 n6 n7)] H19 fun v20 H21 =>
         ∃ a22 : Option Go.Addr, ∃ n23 : Nat, ∃ n24 : Nat, (v20 = (.slice a22 n23 n24)) ∧
         ∃ J25 : List Go.Value → Go.PHeap → Prop, ∃ mu26 : List Go.Value → Go.PHeap → Nat, (J25 ([(.slice none 0 0), (.int IntKind.i64 0)]) H21) ∧
         ∀ a27 : Option Go.Addr, ∀ n28 : Nat, ∀ n29 : Nat, ∀ x30 : Int, ∀ H31 : Go.PHeap, (J25 ([(.slice a27 n28 n29), (.int IntKind.i64 x30)]) H31) →
         bCase ((decide (x30 < ((l1 : Nat) : Int))))
           (∃ p32 : Go.Addr, (a0 = (some p32)) ∧
            ((0 : Int) ≤ x30) ∧
            (x30 < ((l1 : Nat) : Int)) ∧
            ∃ a33 : Option Go.Addr, ∃ n34 : Nat, ∃ n35 : Nat, ((H31.cell? ((p32.add (((x30).toNat * 1))))) = (some (.slice a33 n34 n35))) ∧
            ((0 : Int) ≤ ((n23 : Nat) : Int)) ∧
            (((n23 : Nat) : Int) ≤ ((n23 : Nat) : Int)) ∧
            (((n23 : Nat) : Int) < (2 ^ 62)) ∧
            ((((8 : Nat) : Int) * ((n23 : Nat) : Int)) ≤ (2 ^ 48)) ∧
            ∀ n36 : Nat, ((H31 n36) = none) →
            ∃ J37 : List Go.Value → Go.PHeap → Prop, ∃ mu38 : List Go.Value → Go.PHeap → Nat, (J37 ([(.int IntKind.i64 0)]) ((H31.put n36 ((.cells ((zeroRow (#[(.int IntKind.i64 0)]) (((((n23 : Nat) : Int)).toNat * 1)))) 2 (0, 0)))))) ∧
            ∀ x39 : Int, ∀ H40 : Go.PHeap, (J37 ([(.int IntKind.i64 x39)]) H40) →
            bCase ((decide (x39 < ((n34 : Nat) : Int))))
              (∃ p41 : Go.Addr, (a33 = (some p41)) ∧
               ((0 : Int) ≤ x39) ∧
               (x39 < ((n34 : Nat) : Int)) ∧
               ∃ x42 : Int, ((H40.cell? ((p41.add (((x39).toNat * 1))))) = (some (.int IntKind.i64 x42))) ∧
               CallP Go.Proofs.Try.prog 25 #[(.slice a22 n23 n24), (.int IntKind.i64 x42)] H40 fun v43 H44 =>
                 ∃ x45 : Int, ∃ q46 : Bool, (v43 = (.tuple (#[(.int IntKind.i64 x45), (.bool q46)]))) ∧
                 ∃ p47 : Go.Addr, ((some (Addr.mk n36 0 none)) = (some p47)) ∧
                 ((0 : Int) ≤ x45) ∧
                 (x45 < (((((n23 : Nat) : Int)).toNat : Nat) : Int)) ∧
                 ∃ H48 : Go.PHeap, (PHeap.storeTo H44 ((p47.add (((x45).toNat * 1)))) ([(.int IntKind.i64 1)]) H48) ∧
                 (J37 ([(.int IntKind.i64 ((IntKind.i64.wrap (x39 + 1))))]) H48) ∧
                 (mu38 ([(.int IntKind.i64 ((IntKind.i64.wrap (x39 + 1))))]) H48) < (mu38 ([(.int IntKind.i64 x39)]) H40))
              (∀ n49 : Nat, ((H40 n49) = none) →
               ∃ vs50 : List Go.Value, ((vs50.length) = 1) ∧
               (PHeap.rowAt ((H40.put n49 ((.cells ((Array.mk ([(.slice ((some (Addr.mk n36 0 none))) ((((n23 : Nat) : Int)).toNat) ((((n23 : Nat) : Int)).toNat))] ++ []))) 43 (0, 0))))) ((some (Addr.mk n49 0 none))) vs50) ∧
               ((Go.singles vs50) = true) ∧
               (appOk ((H40.put n49 ((.cells ((Array.mk ([(.slice ((some (Addr.mk n36 0 none))) ((((n23 : Nat) : Int)).toNat) ((((n23 : Nat) : Int)).toNat))] ++ []))) 43 (0, 0))))) 1 24 a27 n28 n29 1 vs50) ∧
               ∀ a51 : Option Go.Addr, ∀ n52 : Nat, ∀ H53 : Go.PHeap, (appRes ((H40.put n49 ((.cells ((Array.mk ([(.slice ((some (Addr.mk n36 0 none))) ((((n23 : Nat) : Int)).toNat) ((((n23 : Nat) : Int)).toNat))] ++ []))) 43 (0, 0))))) 43 1 (#[(.slice none 0 0)]) a27 n28 n29 1 vs50 a51 n52 H53) →
               (J25 ([(.slice a51 (n28 + 1) n52), (.int IntKind.i64 ((IntKind.i64.wrap (x30 + 1))))]) H53) ∧
               (mu26 ([(.slice a51 (n28 + 1) n52), (.int IntKind.i64 ((IntKind.i64.wrap (x30 + 1))))]) H53) < (mu26 ([(.slice a27 n28 n29), (.int IntKind.i64 x30)]) H31)))
           (K ((.tuple (#[(.slice a27 n28 n29), (.slice a22 n23 n24)]))) H31))) := by kernel_rfl

theorem f16_is (a0 : Option Go.Addr) (l1 : Nat) (c2 : Nat) (x3 : Int) (H : PHeap) (K : Value → PHeap → Prop) : callN Go.Proofs.Try.prog 16 #[(.slice a0 l1 c2), (.int IntKind.i64 x3)] H K = (
  ∃ J4 : List Go.Value → Go.PHeap → Prop, ∃ mu5 : List Go.Value → Go.PHeap → Nat, (J4 ([(.int IntKind.i64 0), (.int IntKind.i64 0)]) H) ∧
  ∀ x6 : Int, ∀ x7 : Int, ∀ H8 : Go.PHeap, (J4 ([(.int IntKind.i64 x6), (.int IntKind.i64 x7)]) H8) →
  bCase ((decide (x7 < x3)))
    (∃ J9 : List Go.Value → Go.PHeap → Prop, ∃ mu10 : List Go.Value → Go.PHeap → Nat, (J9 ([(.int IntKind.i64 x6), (.int IntKind.i64 x6)]) H8) ∧
     ∀ x11 : Int, ∀ x12 : Int, ∀ H13 : Go.PHeap, (J9 ([(.int IntKind.i64 x11), (.int IntKind.i64 x12)]) H13) →
     bCase ((decide (x12 < ((l1 : Nat) : Int))))
       (∃ p14 : Go.Addr, (a0 = (some p14)) ∧
        (0 ≤ x12) ∧
        (x12 < ((l1 : Nat) : Int)) ∧
        ∃ a15 : Option Go.Addr, ∃ n16 : Nat, ∃ n17 : Nat, ((H13.cell? ((p14.add (((x12).toNat * 1))))) = (some (.slice a15 n16 n17))) ∧
        ∃ p18 : Go.Addr, (a15 = (some p18)) ∧
        (0 ≤ x7) ∧
        (x7 < ((n16 : Nat) : Int)) ∧
        ∃ x19 : Int, ((H13.cell? ((p18.add (((x7).toNat * 1))))) = (some (.int IntKind.i64 x19))) ∧
        bCase ((!(x19 == 0)))
          (∃ p20 : Go.Addr, (a0 = (some p20)) ∧
           (0 ≤ x12) ∧
           (x12 < ((l1 : Nat) : Int)) ∧
           ∃ a21 : Option Go.Addr, ∃ n22 : Nat, ∃ n23 : Nat, ((H13.cell? ((p20.add (((x12).toNat * 1))))) = (some (.slice a21 n22 n23))) ∧
           ∃ p24 : Go.Addr, (a0 = (some p24)) ∧
           (0 ≤ x11) ∧
           (x11 < ((l1 : Nat) : Int)) ∧
           ∃ a25 : Option Go.Addr, ∃ n26 : Nat, ∃ n27 : Nat, ((H13.cell? ((p24.add (((x11).toNat * 1))))) = (some (.slice a25 n26 n27))) ∧
           ∃ p28 : Go.Addr, (a0 = (some p28)) ∧
           (0 ≤ x11) ∧
           (x11 < ((l1 : Nat) : Int)) ∧
           ∃ H29 : Go.PHeap, (PHeap.storeTo H13 ((p28.add (((x11).toNat * 1)))) ([(.slice a21 n22 n23)]) H29) ∧
           ∃ p30 : Go.Addr, (a0 = (some p30)) ∧
           (0 ≤ x12) ∧
           (x12 < ((l1 : Nat) : Int)) ∧
           ∃ H31 : Go.PHeap, (PHeap.storeTo H29 ((p30.add (((x12).toNat * 1)))) ([(.slice a25 n26 n27)]) H31) ∧
           CallP Go.Proofs.Try.prog 26 #[(.slice a0 l1 c2), (.int IntKind.i64 x11), (.int IntKind.i64 x7)] H31 fun v32 H33 =>
             (v32 = (.tuple #[])) ∧
             (J4 ([(.int IntKind.i64 ((IntKind.i64.wrap (x11 + 1)))), (.int IntKind.i64 ((IntKind.i64.wrap (x7 + 1))))]) H33) ∧
             (mu5 ([(.int IntKind.i64 ((IntKind.i64.wrap (x11 + 1)))), (.int IntKind.i64 ((IntKind.i64.wrap (x7 + 1))))]) H33) < (mu5 ([(.int IntKind.i64 x6), (.int IntKind.i64 x7)]) H8))
          ((J9 ([(.int IntKind.i64 x11), (.int IntKind.i64 ((IntKind.i64.wrap (x12 + 1))))]) H13) ∧
           (mu10 ([(.int IntKind.i64 x11), (.int IntKind.i64 ((IntKind.i64.wrap (x12 + 1))))]) H13) < (mu10 ([(.int IntKind.i64 x11), (.int IntKind.i64 x12)]) H13)))
       ((J4 ([(.int IntKind.i64 x11), (.int IntKind.i64 ((IntKind.i64.wrap (x7 + 1))))]) H13) ∧
        (mu5 ([(.int IntKind.i64 x11), (.int IntKind.i64 ((IntKind.i64.wrap (x7 + 1))))]) H13) < (mu5 ([(.int IntKind.i64 x6), (.int IntKind.i64 x7)]) H8)))
    (K (.slice a0 l1 c2) H8)) := by kernel_rfl

theorem f17_is (a0 : Option Go.Addr) (l1 : Nat) (c2 : Nat) (H : PHeap) (K : Value → PHeap → Prop) : callN Go.Proofs.Try.prog 17 #[(.slice a0 l1 c2)] H K = (
  ∃ J3 : List Go.Value → Go.PHeap → Prop, ∃ mu4 : List Go.Value → Go.PHeap → Nat, (J3 ([(.int IntKind.i64 0), (.int IntKind.i64 (-1)), (.int IntKind.i64 0)]) H) ∧
  ∀ x5 : Int, ∀ x6 : Int, ∀ x7 : Int, ∀ H8 : Go.PHeap, (J3 ([(.int IntKind.i64 x5), (.int IntKind.i64 x6), (.int IntKind.i64 x7)]) H8) →
  bCase ((decide (x7 < ((l1 : Nat) : Int))))
    (∃ p9 : Go.Addr, (a0 = (some p9)) ∧
     (0 ≤ x7) ∧
     (x7 < ((l1 : Nat) : Int)) ∧
     ∃ x10 : Int, ((H8.cell? ((p9.add (((x7).toNat * 1))))) = (some (.int IntKind.i64 x10))) ∧
     bCase ((bif (!(x10 == 0)) then (decide (x6 ≥ 0)) else false))
       (K ((.int IntKind.i64 (-1))) H8)
       (bCase ((!(x10 == 0)))
          ((J3 ([(.int IntKind.i64 x5), (.int IntKind.i64 x7), (.int IntKind.i64 ((IntKind.i64.wrap (x7 + 1))))]) H8) ∧
           (mu4 ([(.int IntKind.i64 x5), (.int IntKind.i64 x7), (.int IntKind.i64 ((IntKind.i64.wrap (x7 + 1))))]) H8) < (mu4 ([(.int IntKind.i64 x5), (.int IntKind.i64 x6), (.int IntKind.i64 x7)]) H8))
          ((J3 ([(.int IntKind.i64 x5), (.int IntKind.i64 x6), (.int IntKind.i64 ((IntKind.i64.wrap (x7 + 1))))]) H8) ∧
           (mu4 ([(.int IntKind.i64 x5), (.int IntKind.i64 x6), (.int IntKind.i64 ((IntKind.i64.wrap (x7 + 1))))]) H8) < (mu4 ([(.int IntKind.i64 x5), (.int IntKind.i64 x6), (.int IntKind.i64 x7)]) H8))))
    (K (.int IntKind.i64 x6) H8)) := by kernel_rfl

theorem f18_is (a0 : Option Go.Addr) (a1 : Option Go.Addr) (l2 : Nat) (c3 : Nat) (x4 : Int) (H : PHeap) (K : Value → PHeap → Prop) : callN Go.Proofs.Try.prog 18 #[(.pointer a0), (.slice a1 l2 c3), (.int IntKind.i64 x4)] H K = (
  CallP Go.Proofs.Try.prog 27 #[(.pointer a0), (.slice a1 l2 c3)] H fun v5 H6 =>
    ∃ x7 : Int, (v5 = (.int IntKind.i64 x7)) ∧
    bCase ((decide (x7 > x4)))
      (K (.int IntKind.i64 35) H6)
      (K (.int IntKind.i64 0) H6)) := by kernel_rfl

theorem f19_is (a0 : Option Go.Addr) (a1 : Option Go.Addr) (l2 : Nat) (c3 : Nat) (H : PHeap) (K : Value → PHeap → Prop) : callN Go.Proofs.Try.prog 19 #[(.pointer a0), (.slice a1 l2 c3)] H K = (
  CallP Go.Proofs.Try.prog 6 #[(.slice a1 l2 c3)] H fun v4 H5 =>
    ∃ q6 : Bool, (v4 = (.bool q6)) ∧
    bCase (!q6)
      (K (.int IntKind.i64 21) H5)
      (∃ p7 : Go.Addr, (a0 = (some p7)) ∧
       ∃ a8 : Option Go.Addr, ∃ n9 : Nat, ∃ n10 : Nat, ((H5.cell? (p7.add 0)) = (some (.slice a8 n9 n10))) ∧
       CallP Go.Proofs.Try.prog 28 #[(.slice a1 l2 c3)] H5 fun v11 H12 =>
         ((H12.cell? (p7.add 0)) = (some (.slice a8 n9 n10))) ∧
         ∃ a13 : Option Go.Addr, ∃ n14 : Nat, ∃ n15 : Nat, (v11 = (.slice a13 n14 n15)) ∧
         ∀ n16 : Nat, ((H12 n16) = none) →
         ∃ vs17 : List Go.Value, ((vs17.length) = 1) ∧
         (PHeap.rowAt ((H12.put n16 ((.cells ((Array.mk ([(.slice a13 n14 n15)] ++ []))) 23 (0, 0))))) ((some (Addr.mk n16 0 none))) vs17) ∧
         ((Go.singles vs17) = true) ∧
         (appOk ((H12.put n16 ((.cells ((Array.mk ([(.slice a13 n14 n15)] ++ []))) 23 (0, 0))))) 1 24 a8 n9 n10 1 vs17) ∧
         ∀ a18 : Option Go.Addr, ∀ n19 : Nat, ∀ H20 : Go.PHeap, (appRes ((H12.put n16 ((.cells ((Array.mk ([(.slice a13 n14 n15)] ++ []))) 23 (0, 0))))) 23 1 (#[(.slice none 0 0)]) a8 n9 n10 1 vs17 a18 n19 H20) →
         ∃ p21 : Go.Addr, (a0 = (some p21)) ∧
         ∃ H22 : Go.PHeap, (PHeap.storeTo H20 (p21.add 0) ([(.slice a18 (n9 + 1) n19)]) H22) ∧
         K (.int IntKind.i64 0) H22)) := by kernel_rfl

theorem f20_is (a0 : Option Go.Addr) (H : PHeap) (K : Value → PHeap → Prop) : callN Go.Proofs.Try.prog 20 #[(.pointer a0)] H K = (
  ∃ p1 : Go.Addr, (a0 = (some p1)) ∧
  ∃ a2 : Option Go.Addr, ∃ n3 : Nat, ∃ n4 : Nat, ((H.cell? (p1.add 0)) = (some (.slice a2 n3 n4))) ∧
  K ((.int IntKind.i64 (((n3 : Nat) : Int)))) H) := by kernel_rfl

theorem f21_is (a0 : Option Go.Addr) (H : PHeap) (K : Value → PHeap → Prop) : callN Go.Proofs.Try.prog 21 #[(.pointer a0)] H K = (
  ∃ p1 : Go.Addr, (a0 = (some p1)) ∧
  CallP Go.Proofs.Try.prog 29 #[(.pointer ((some (p1.add 3))))] H fun v2 H3 =>
    ∃ v4 : Go.Value, (v2 = v4) ∧
    K v4 H3) := by kernel_rfl

theorem f22_is (a0 : Option Go.Addr) (l1 : Nat) (c2 : Nat) (g3 : Nat) (first4 : Array Go.Value) (cap5 : Array Go.Value) (H : PHeap) (K : Value → PHeap → Prop) : callN Go.Proofs.Try.prog 22 #[(.slice a0 l1 c2), (.func (.func g3) first4 cap5)] H K = (
  ∃ J6 : List Go.Value → Go.PHeap → Prop, ∃ mu7 : List Go.Value → Go.PHeap → Nat, (J6 ([(.int IntKind.i64 0), (.int IntKind.i64 0)]) H) ∧
  ∀ x8 : Int, ∀ x9 : Int, ∀ H10 : Go.PHeap, (J6 ([(.int IntKind.i64 x8), (.int IntKind.i64 x9)]) H10) →
  bCase ((decide (x9 < ((l1 : Nat) : Int))))
    (∃ p11 : Go.Addr, (a0 = (some p11)) ∧
     (0 ≤ x9) ∧
     (x9 < ((l1 : Nat) : Int)) ∧
     ∃ a12 : Option Go.Addr, ∃ n13 : Nat, ∃ n14 : Nat, ((H10.cell? ((p11.add (((x9).toNat * 1))))) = (some (.slice a12 n13 n14))) ∧
     onlyIf (((!false) && (entersB Go.Proofs.Try.prog g3)))
       (CallP Go.Proofs.Try.prog g3 (Array.mk (((first4.1) ++ [(.slice a12 n13 n14)]) ++ (cap5.1))) H10 fun v15 H16 =>
          ∃ q17 : Bool, (v15 = (.bool q17)) ∧
          bCase q17
            (K (.int IntKind.i64 x9) H16)
            ((J6 ([(.int IntKind.i64 x8), (.int IntKind.i64 ((IntKind.i64.wrap (x9 + 1))))]) H16) ∧
             (mu7 ([(.int IntKind.i64 x8), (.int IntKind.i64 ((IntKind.i64.wrap (x9 + 1))))]) H16) < (mu7 ([(.int IntKind.i64 x8), (.int IntKind.i64 x9)]) H10))))
    (K ((.int IntKind.i64 (-1))) H10)) := by kernel_rfl

theorem f26_is (a0 : Option Go.Addr) (l1 : Nat) (c2 : Nat) (x3 : Int) (x4 : Int) (H : PHeap) (K : Value → PHeap → Prop) : callN Go.Proofs.Try.prog 26 #[(.slice a0 l1 c2), (.int IntKind.i64 x3), (.int IntKind.i64 x4)] H K = (
  ∃ J5 : List Go.Value → Go.PHeap → Prop, ∃ mu6 : List Go.Value → Go.PHeap → Nat, (J5 ([(.int IntKind.i64 0)]) H) ∧
  ∀ x7 : Int, ∀ H8 : Go.PHeap, (J5 ([(.int IntKind.i64 x7)]) H8) →
  bCase ((decide (x7 < ((l1 : Nat) : Int))))
    (∃ p9 : Go.Addr, (a0 = (some p9)) ∧
     (0 ≤ x7) ∧
     (x7 < ((l1 : Nat) : Int)) ∧
     ∃ a10 : Option Go.Addr, ∃ n11 : Nat, ∃ n12 : Nat, ((H8.cell? ((p9.add (((x7).toNat * 1))))) = (some (.slice a10 n11 n12))) ∧
     bCase (x7 == x3)
       ((J5 ([(.int IntKind.i64 ((IntKind.i64.wrap (x7 + 1))))]) H8) ∧
        (mu6 ([(.int IntKind.i64 ((IntKind.i64.wrap (x7 + 1))))]) H8) < (mu6 ([(.int IntKind.i64 x7)]) H8))
       (∃ p13 : Go.Addr, (a10 = (some p13)) ∧
        (0 ≤ x4) ∧
        (x4 < ((n11 : Nat) : Int)) ∧
        ∃ x14 : Int, ((H8.cell? ((p13.add (((x4).toNat * 1))))) = (some (.int IntKind.i64 x14))) ∧
        bCase (x14 == 0)
          ((J5 ([(.int IntKind.i64 ((IntKind.i64.wrap (x7 + 1))))]) H8) ∧
           (mu6 ([(.int IntKind.i64 ((IntKind.i64.wrap (x7 + 1))))]) H8) < (mu6 ([(.int IntKind.i64 x7)]) H8))
          (∃ p15 : Go.Addr, (a0 = (some p15)) ∧
           (0 ≤ x3) ∧
           (x3 < ((l1 : Nat) : Int)) ∧
           ∃ a16 : Option Go.Addr, ∃ n17 : Nat, ∃ n18 : Nat, ((H8.cell? ((p15.add (((x3).toNat * 1))))) = (some (.slice a16 n17 n18))) ∧
           ∃ p19 : Go.Addr, (a16 = (some p19)) ∧
           (0 ≤ x4) ∧
           (x4 < ((n17 : Nat) : Int)) ∧
           ∃ x20 : Int, ((H8.cell? ((p19.add (((x4).toNat * 1))))) = (some (.int IntKind.i64 x20))) ∧
           ∃ p21 : Go.Addr, (a10 = (some p21)) ∧
           (0 ≤ x4) ∧
           (x4 < ((n11 : Nat) : Int)) ∧
           ∃ x22 : Int, ((H8.cell? ((p21.add (((x4).toNat * 1))))) = (some (.int IntKind.i64 x22))) ∧
           ∃ J23 : List Go.Value → Go.PHeap → Prop, ∃ mu24 : List Go.Value → Go.PHeap → Nat, (J23 ([(.int IntKind.i64 0)]) H8) ∧
           ∀ x25 : Int, ∀ H26 : Go.PHeap, (J23 ([(.int IntKind.i64 x25)]) H26) →
           bCase ((decide (x25 < ((n11 : Nat) : Int))))
             (∃ p27 : Go.Addr, (a10 = (some p27)) ∧
              (0 ≤ x25) ∧
              (x25 < ((n11 : Nat) : Int)) ∧
              ∃ x28 : Int, ((H26.cell? ((p27.add (((x25).toNat * 1))))) = (some (.int IntKind.i64 x28))) ∧
              ∃ p29 : Go.Addr, (a0 = (some p29)) ∧
              (0 ≤ x3) ∧
              (x3 < ((l1 : Nat) : Int)) ∧
              ∃ a30 : Option Go.Addr, ∃ n31 : Nat, ∃ n32 : Nat, ((H26.cell? ((p29.add (((x3).toNat * 1))))) = (some (.slice a30 n31 n32))) ∧
              ∃ p33 : Go.Addr, (a30 = (some p33)) ∧
              (0 ≤ x25) ∧
              (x25 < ((n31 : Nat) : Int)) ∧
              ∃ x34 : Int, ((H26.cell? ((p33.add (((x25).toNat * 1))))) = (some (.int IntKind.i64 x34))) ∧
              ∃ p35 : Go.Addr, (a10 = (some p35)) ∧
              (0 ≤ x25) ∧
              (x25 < ((n11 : Nat) : Int)) ∧
              ∃ H36 : Go.PHeap, (PHeap.storeTo H26 ((p35.add (((x25).toNat * 1)))) ([(.int IntKind.i64 ((IntKind.i64.wrap (((IntKind.i64.wrap (x28 * x20)) - (IntKind.i64.wrap (x34 * x22)))))))]) H36) ∧
              (J23 ([(.int IntKind.i64 ((IntKind.i64.wrap (x25 + 1))))]) H36) ∧
              (mu24 ([(.int IntKind.i64 ((IntKind.i64.wrap (x25 + 1))))]) H36) < (mu24 ([(.int IntKind.i64 x25)]) H26))
             (CallP Go.Proofs.Try.prog 34 #[(.slice a10 n11 n12)] H26 fun v37 H38 =>
                (v37 = (.tuple #[])) ∧
                (J5 ([(.int IntKind.i64 ((IntKind.i64.wrap (x7 + 1))))]) H38) ∧
                (mu6 ([(.int IntKind.i64 ((IntKind.i64.wrap (x7 + 1))))]) H38) < (mu6 ([(.int IntKind.i64 x7)]) H8)))))
    (K (.tuple #[]) H8)) := by kernel_rfl

theorem f27_is (a0 : Option Go.Addr) (a1 : Option Go.Addr) (l2 : Nat) (c3 : Nat) (H : PHeap) (K : Value → PHeap → Prop) : callN Go.Proofs.Try.prog 27 #[(.pointer a0), (.slice a1 l2 c3)] H K = (
  ∃ p4 : Go.Addr, (a0 = (some p4)) ∧
  ∃ a5 : Option Go.Addr, ∃ n6 : Nat, ∃ n7 : Nat, ((H.cell? (p4.add 0)) = (some (.slice a5 n6 n7))) ∧
  ∃ J8 : List Go.Value → Go.PHeap → Prop, ∃ mu9 : List Go.Value → Go.PHeap → Nat, (J8 ([(.int IntKind.i64 0), (.int IntKind.i64 0)]) H) ∧
  ∀ x10 : Int, ∀ x11 : Int, ∀ H12 : Go.PHeap, (J8 ([(.int IntKind.i64 x10), (.int IntKind.i64 x11)]) H12) →
  bCase ((decide (x11 < ((n6 : Nat) : Int))))
    (∃ p13 : Go.Addr, (a5 = (some p13)) ∧
     (0 ≤ x11) ∧
     (x11 < ((n6 : Nat) : Int)) ∧
     ∃ a14 : Option Go.Addr, ∃ n15 : Nat, ∃ n16 : Nat, ((H12.cell? ((p13.add (((x11).toNat * 1))))) = (some (.slice a14 n15 n16))) ∧
     CallP Go.Proofs.Try.prog 35 #[(.slice a1 l2 c3), (.slice a14 n15 n16)] H12 fun v17 H18 =>
       ∃ x19 : Int, (v17 = (.int IntKind.i64 x19)) ∧
       (J8 ([(.int IntKind.i64 (if x19 > x10 then x19 else x10)), (.int IntKind.i64 ((IntKind.i64.wrap (x11 + 1))))]) H18) ∧
       (mu9 ([(.int IntKind.i64 (if x19 > x10 then x19 else x10)), (.int IntKind.i64 ((IntKind.i64.wrap (x11 + 1))))]) H18) < (mu9 ([(.int IntKind.i64 x10), (.int IntKind.i64 x11)]) H12))
    (K (.int IntKind.i64 x10) H12)) := by kernel_rfl

theorem f28_is (a0 : Option Go.Addr) (l1 : Nat) (c2 : Nat) (H : PHeap) (K : Value → PHeap → Prop) : callN Go.Proofs.Try.prog 28 #[(.slice a0 l1 c2)] H K = (
  bCase (Option.isNone a0)
    (K (.slice none 0 0) H)
    (∀ n3 : Nat, ((H n3) = none) →
     ∃ vs4 : List Go.Value, ((vs4.length) = (l1 * 1)) ∧
     (PHeap.rowAt ((H.put n3 ((.cells #[] 3 (0, 0))))) a0 vs4) ∧
     ((Go.singles vs4) = true) ∧
     (appOk ((H.put n3 ((.cells #[] 3 (0, 0))))) 1 8 ((some (Addr.mk n3 0 none))) 0 0 l1 vs4) ∧
     ∀ a5 : Option Go.Addr, ∀ n6 : Nat, ∀ H7 : Go.PHeap, (appRes ((H.put n3 ((.cells #[] 3 (0, 0))))) 3 1 (#[(.int IntKind.i64 0)]) ((some (Addr.mk n3 0 none))) 0 0 l1 vs4 a5 n6 H7) →
     K ((.slice a5 (0 + l1) n6)) H7)) := by kernel_rfl

theorem f29_is (a0 : Option Go.Addr) (H : PHeap) (K : Value → PHeap → Prop) : callN Go.Proofs.Try.prog 29 #[(.pointer a0)] H K = (
  ∀ n1 : Nat, ((H n1) = none) →
  K ((.func (.func 36) #[] (#[(.pointer ((some (⟨n1, 0, none⟩))))]))) ((H.put n1 ((.cells (#[(.pointer a0)]) 58 (0, 0)))))) := by kernel_rfl

theorem f34_is (a0 : Option Go.Addr) (l1 : Nat) (c2 : Nat) (H : PHeap) (K : Value → PHeap → Prop) : callN Go.Proofs.Try.prog 34 #[(.slice a0 l1 c2)] H K = (
  ∃ J3 : List Go.Value → Go.PHeap → Prop, ∃ mu4 : List Go.Value → Go.PHeap → Nat, (J3 ([(.int IntKind.i64 0), (.int IntKind.i64 0)]) H) ∧
  ∀ x5 : Int, ∀ x6 : Int, ∀ H7 : Go.PHeap, (J3 ([(.int IntKind.i64 x5), (.int IntKind.i64 x6)]) H7) →
  bCase ((decide (x6 < ((l1 : Nat) : Int))))
    (∃ p8 : Go.Addr, (a0 = (some p8)) ∧
     (0 ≤ x6) ∧
     (x6 < ((l1 : Nat) : Int)) ∧
     ∃ x9 : Int, ((H7.cell? ((p8.add (((x6).toNat * 1))))) = (some (.int IntKind.i64 x9))) ∧
     ∃ J10 : List Go.Value → Go.PHeap → Prop, ∃ mu11 : List Go.Value → Go.PHeap → Nat, (J10 ([(.int IntKind.i64 x5), (.int IntKind.i64 x9)]) H7) ∧
     ∀ x12 : Int, ∀ x13 : Int, ∀ H14 : Go.PHeap, (J10 ([(.int IntKind.i64 x12), (.int IntKind.i64 x13)]) H14) →
     bCase ((!(x13 == 0)))
       ((IntKind.i64 = IntKind.i64) ∧
        (x13 ≠ 0) ∧
        (J10 ([(.int IntKind.i64 x13), (.int IntKind.i64 (x12.tmod x13))]) H14) ∧
        (mu11 ([(.int IntKind.i64 x13), (.int IntKind.i64 (x12.tmod x13))]) H14) < (mu11 ([(.int IntKind.i64 x12), (.int IntKind.i64 x13)]) H14))
       ((J3 ([(.int IntKind.i64 x12), (.int IntKind.i64 ((IntKind.i64.wrap (x6 + 1))))]) H14) ∧
        (mu4 ([(.int IntKind.i64 x12), (.int IntKind.i64 ((IntKind.i64.wrap (x6 + 1))))]) H14) < (mu4 ([(.int IntKind.i64 x5), (.int IntKind.i64 x6)]) H7)))
    (∃ J15 : List Go.Value → Go.PHeap → Prop, ∃ mu16 : List Go.Value → Go.PHeap → Nat, (J15 ([(.int IntKind.i64 0)]) H7) ∧
     ∀ x17 : Int, ∀ H18 : Go.PHeap, (J15 ([(.int IntKind.i64 x17)]) H18) →
     bCase ((decide (x17 < ((l1 : Nat) : Int))))
       (bCase ((!(x5 == 0)))
          (∃ p19 : Go.Addr, (a0 = (some p19)) ∧
           (0 ≤ x17) ∧
           (x17 < ((l1 : Nat) : Int)) ∧
           ∃ x20 : Int, ((H18.cell? ((p19.add (((x17).toNat * 1))))) = (some (.int IntKind.i64 x20))) ∧
           (IntKind.i64 = IntKind.i64) ∧
           (x5 ≠ 0) ∧
           ∃ p21 : Go.Addr, (a0 = (some p21)) ∧
           (0 ≤ x17) ∧
           (x17 < ((l1 : Nat) : Int)) ∧
           ∃ H22 : Go.PHeap, (PHeap.storeTo H18 ((p21.add (((x17).toNat * 1)))) ([(.int IntKind.i64 ((IntKind.i64.wrap (x20.tdiv x5))))]) H22) ∧
           (J15 ([(.int IntKind.i64 ((IntKind.i64.wrap (x17 + 1))))]) H22) ∧
           (mu16 ([(.int IntKind.i64 ((IntKind.i64.wrap (x17 + 1))))]) H22) < (mu16 ([(.int IntKind.i64 x17)]) H18))
          ((J15 ([(.int IntKind.i64 ((IntKind.i64.wrap (x17 + 1))))]) H18) ∧
           (mu16 ([(.int IntKind.i64 ((IntKind.i64.wrap (x17 + 1))))]) H18) < (mu16 ([(.int IntKind.i64 x17)]) H18)))
       (K (.tuple #[]) H18))) := by kernel_rfl

theorem f35_is (a0 : Option Go.Addr) (l1 : Nat) (c2 : Nat) (a3 : Option Go.Addr) (l4 : Nat) (c5 : Nat) (H : PHeap) (K : Value → PHeap → Prop) : callN Go.Proofs.Try.prog 35 #[(.slice a0 l1 c2), (.slice a3 l4 c5)] H K = (
  CallP Go.Proofs.Try.prog 6 #[(.slice a0 l1 c2)] H fun v6 H7 =>
    ∃ q8 : Bool, (v6 = (.bool q8)) ∧
    bCase (!q8)
      (K (.int IntKind.i64 0) H7)
      (CallP Go.Proofs.Try.prog 6 #[(.slice a3 l4 c5)] H7 fun v9 H10 =>
         ∃ q11 : Bool, (v9 = (.bool q11)) ∧
         bCase (!q11)
           (K (.int IntKind.i64 0) H10)
           (∃ J12 : List Go.Value → Go.PHeap → Prop, ∃ mu13 : List Go.Value → Go.PHeap → Nat, (J12 ([(.slice a0 l1 c2), (.slice a3 l4 c5), (.int IntKind.i64 0)]) H10) ∧
            ∀ a14 : Option Go.Addr, ∀ n15 : Nat, ∀ n16 : Nat, ∀ a17 : Option Go.Addr, ∀ n18 : Nat, ∀ n19 : Nat, ∀ x20 : Int, ∀ H21 : Go.PHeap, (J12 ([(.slice a14 n15 n16), (.slice a17 n18 n19), (.int IntKind.i64 x20)]) H21) →
            bCase ((bif (decide (((n15 : Nat) : Int) > 0)) then (decide (((n18 : Nat) : Int) > 0)) else false))
              (∃ p22 : Go.Addr, (a14 = (some p22)) ∧
               ((0 : Int) ≤ 0) ∧
               ((0 : Int) < ((n15 : Nat) : Int)) ∧
               ∃ x23 : Int, ((H21.cell? (p22.add 0)) = (some (.int IntKind.i64 x23))) ∧
               ∃ p24 : Go.Addr, (a17 = (some p24)) ∧
               ((0 : Int) ≤ 0) ∧
               ((0 : Int) < ((n18 : Nat) : Int)) ∧
               ∃ x25 : Int, ((H21.cell? (p24.add 0)) = (some (.int IntKind.i64 x25))) ∧
               bCase ((decide (x23 < x25)))
                 (((0 : Int) ≤ 1) ∧
                  ((1 : Int) ≤ ((n15 : Nat) : Int)) ∧
                  (((n15 : Nat) : Int) ≤ ((n16 : Nat) : Int)) ∧
                  (J12 ([(.slice ((if n16 = 1 then a14 else (addO a14 1))) (((((n15 : Nat) : Int)).toNat - 1)) (n16 - 1)), (.slice a17 n18 n19), (.int IntKind.i64 x20)]) H21) ∧
                  (mu13 ([(.slice ((if n16 = 1 then a14 else (addO a14 1))) (((((n15 : Nat) : Int)).toNat - 1)) (n16 - 1)), (.slice a17 n18 n19), (.int IntKind.i64 x20)]) H21) < (mu13 ([(.slice a14 n15 n16), (.slice a17 n18 n19), (.int IntKind.i64 x20)]) H21))
                 (∃ p26 : Go.Addr, (a14 = (some p26)) ∧
                  ((0 : Int) ≤ 0) ∧
                  ((0 : Int) < ((n15 : Nat) : Int)) ∧
                  ∃ x27 : Int, ((H21.cell? (p26.add 0)) = (some (.int IntKind.i64 x27))) ∧
                  ∃ p28 : Go.Addr, (a17 = (some p28)) ∧
                  ((0 : Int) ≤ 0) ∧
                  ((0 : Int) < ((n18 : Nat) : Int)) ∧
                  ∃ x29 : Int, ((H21.cell? (p28.add 0)) = (some (.int IntKind.i64 x29))) ∧
                  bCase ((decide (x27 > x29)))
                    (((0 : Int) ≤ 1) ∧
                     ((1 : Int) ≤ ((n18 : Nat) : Int)) ∧
                     (((n18 : Nat) : Int) ≤ ((n19 : Nat) : Int)) ∧
                     (J12 ([(.slice a14 n15 n16), (.slice ((if n19 = 1 then a17 else (addO a17 1))) (((((n18 : Nat) : Int)).toNat - 1)) (n19 - 1)), (.int IntKind.i64 x20)]) H21) ∧
                     (mu13 ([(.slice a14 n15 n16), (.slice ((if n19 = 1 then a17 else (addO a17 1))) (((((n18 : Nat) : Int)).toNat - 1)) (n19 - 1)), (.int IntKind.i64 x20)]) H21) < (mu13 ([(.slice a14 n15 n16), (.slice a17 n18 n19), (.int IntKind.i64 x20)]) H21))
                    (((0 : Int) ≤ 1) ∧
                     ((1 : Int) ≤ ((n15 : Nat) : Int)) ∧
                     (((n15 : Nat) : Int) ≤ ((n16 : Nat) : Int)) ∧
                     ((0 : Int) ≤ 1) ∧
                     ((1 : Int) ≤ ((n18 : Nat) : Int)) ∧
                     (((n18 : Nat) : Int) ≤ ((n19 : Nat) : Int)) ∧
                     (J12 ([(.slice ((if n16 = 1 then a14 else (addO a14 1))) (((((n15 : Nat) : Int)).toNat - 1)) (n16 - 1)), (.slice ((if n19 = 1 then a17 else (addO a17 1))) (((((n18 : Nat) : Int)).toNat - 1)) (n19 - 1)), (.int IntKind.i64 ((IntKind.i64.wrap (x20 + 1))))]) H21) ∧
                     (mu13 ([(.slice ((if n16 = 1 then a14 else (addO a14 1))) (((((n15 : Nat) : Int)).toNat - 1)) (n16 - 1)), (.slice ((if n19 = 1 then a17 else (addO a17 1))) (((((n18 : Nat) : Int)).toNat - 1)) (n19 - 1)), (.int IntKind.i64 ((IntKind.i64.wrap (x20 + 1))))]) H21) < (mu13 ([(.slice a14 n15 n16), (.slice a17 n18 n19), (.int IntKind.i64 x20)]) H21))))
              (K (.int IntKind.i64 x20) H21)))) := by kernel_rfl

theorem f25_is (a0 : Option Go.Addr) (l1 : Nat) (c2 : Nat) (x3 : Int) (H : PHeap) (K : Value → PHeap → Prop) : callN Go.Proofs.Try.prog 25 #[(.slice a0 l1 c2), (.int IntKind.i64 x3)] H K = (
  ∃ J4 : List Go.Value → Go.PHeap → Prop, ∃ mu5 : List Go.Value → Go.PHeap → Nat, (J4 ([(.int IntKind.i64 0), (.int IntKind.i64 (((l1 : Nat) : Int)))]) H) ∧
  ∀ x6 : Int, ∀ x7 : Int, ∀ H8 : Go.PHeap, (J4 ([(.int IntKind.i64 x6), (.int IntKind.i64 x7)]) H8) →
  bCase ((decide (x6 < x7)))
    (∃ p9 : Go.Addr, (a0 = (some p9)) ∧
     (0 ≤ (IntKind.i64.wrap (((Go.IntKind.u64.wrap (Go.IntKind.i64.wrap (x6 + x7))).fdiv (2 ^ Min.min (Int.toNat 1) Go.IntKind.u64.bits))))) ∧
     ((IntKind.i64.wrap (((Go.IntKind.u64.wrap (Go.IntKind.i64.wrap (x6 + x7))).fdiv (2 ^ Min.min (Int.toNat 1) Go.IntKind.u64.bits)))) < ((l1 : Nat) : Int)) ∧
     ∃ x10 : Int, ((H8.cell? ((p9.add ((((IntKind.i64.wrap (((Go.IntKind.u64.wrap (Go.IntKind.i64.wrap (x6 + x7))).fdiv (2 ^ Min.min (Int.toNat 1) Go.IntKind.u64.bits))))).toNat * 1))))) = (some (.int IntKind.i64 x10))) ∧
     CallP Go.Proofs.Try.prog 32 #[(.int IntKind.i64 x10), (.int IntKind.i64 x3)] H8 fun v11 H12 =>
       ∃ q13 : Bool, (v11 = (.bool q13)) ∧
       bCase q13
         ((J4 ([(.int IntKind.i64 ((IntKind.i64.wrap (((IntKind.i64.wrap (((Go.IntKind.u64.wrap (Go.IntKind.i64.wrap (x6 + x7))).fdiv (2 ^ Min.min (Int.toNat 1) Go.IntKind.u64.bits)))) + 1))))), (.int IntKind.i64 x7)]) H12) ∧
          (mu5 ([(.int IntKind.i64 ((IntKind.i64.wrap (((IntKind.i64.wrap (((Go.IntKind.u64.wrap (Go.IntKind.i64.wrap (x6 + x7))).fdiv (2 ^ Min.min (Int.toNat 1) Go.IntKind.u64.bits)))) + 1))))), (.int IntKind.i64 x7)]) H12) < (mu5 ([(.int IntKind.i64 x6), (.int IntKind.i64 x7)]) H8))
         ((J4 ([(.int IntKind.i64 x6), (.int IntKind.i64 ((IntKind.i64.wrap (((Go.IntKind.u64.wrap (Go.IntKind.i64.wrap (x6 + x7))).fdiv (2 ^ Min.min (Int.toNat 1) Go.IntKind.u64.bits))))))]) H12) ∧
          (mu5 ([(.int IntKind.i64 x6), (.int IntKind.i64 ((IntKind.i64.wrap (((Go.IntKind.u64.wrap (Go.IntKind.i64.wrap (x6 + x7))).fdiv (2 ^ Min.min (Int.toNat 1) Go.IntKind.u64.bits))))))]) H12) < (mu5 ([(.int IntKind.i64 x6), (.int IntKind.i64 x7)]) H8)))
    (bCase ((decide (x6 < ((l1 : Nat) : Int))))
       (∃ p14 : Go.Addr, (a0 = (some p14)) ∧
        (0 ≤ x6) ∧
        (x6 < ((l1 : Nat) : Int)) ∧
        ∃ x15 : Int, ((H8.cell? ((p14.add (((x6).toNat * 1))))) = (some (.int IntKind.i64 x15))) ∧
        bCase (x15 == x3)
          (K ((.tuple (#[(.int IntKind.i64 x6), (.bool true)]))) H8)
          (∃ p16 : Go.Addr, (a0 = (some p16)) ∧
           (0 ≤ x6) ∧
           (x6 < ((l1 : Nat) : Int)) ∧
           ∃ x17 : Int, ((H8.cell? ((p16.add (((x6).toNat * 1))))) = (some (.int IntKind.i64 x17))) ∧
           CallP Go.Proofs.Try.prog 33 #[(.int IntKind.i64 x17)] H8 fun v18 H19 =>
             ∃ q20 : Bool, (v18 = (.bool q20)) ∧
             bCase q20
               (CallP Go.Proofs.Try.prog 33 #[(.int IntKind.i64 x3)] H19 fun v21 H22 =>
                  ∃ q23 : Bool, (v21 = (.bool q23)) ∧
                  K ((.tuple (#[(.int IntKind.i64 x6), (.bool q23)]))) H22)
               (K ((.tuple (#[(.int IntKind.i64 x6), (.bool false)]))) H19)))
       (False))) := by kernel_rfl

end Go.Inf
