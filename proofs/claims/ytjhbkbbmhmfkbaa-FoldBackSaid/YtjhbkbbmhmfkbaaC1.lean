/- The literal code is the functions' own: printed by mk.py. -/
import Derived.Test.YtjhbkbbmhmfkbaaC0
import Derived.Test.YtjhbkbbmhmfkbaaChecked
import Derived.KernelRfl
namespace VL
open Go
theorem hP : Go.Proofs.Try.prog.follows .mixedOrders = true := by kernel_rfl
theorem k3 : chkF Go.Proofs.Try.prog 3 c3 2 r3 = true := by kernel_rfl
theorem k4 : chkF Go.Proofs.Try.prog 4 c4 2 r4 = true := by kernel_rfl
theorem k5 : chkF Go.Proofs.Try.prog 5 c5 3 r5 = true := by kernel_rfl
theorem k6 : chkF Go.Proofs.Try.prog 6 c6 1 r6 = true := by kernel_rfl
theorem k7 : chkF Go.Proofs.Try.prog 7 c7 4 r7 = true := by kernel_rfl
theorem k8 : chkF Go.Proofs.Try.prog 8 c8 1 r8 = true := by kernel_rfl
theorem k9 : chkF Go.Proofs.Try.prog 9 c9 1 r9 = true := by kernel_rfl
theorem k10 : chkF Go.Proofs.Try.prog 10 c10 0 r10 = true := by kernel_rfl
theorem k11 : chkF Go.Proofs.Try.prog 11 c11 1 r11 = true := by kernel_rfl
theorem k12 : chkF Go.Proofs.Try.prog 12 c12 1 r12 = true := by kernel_rfl
theorem k13 : chkF Go.Proofs.Try.prog 13 c13 2 r13 = true := by kernel_rfl
theorem k14 : chkF Go.Proofs.Try.prog 14 c14 2 r14 = true := by kernel_rfl
theorem k15 : chkF Go.Proofs.Try.prog 15 c15 2 r15 = true := by kernel_rfl
theorem k16 : chkF Go.Proofs.Try.prog 16 c16 1 r16 = true := by kernel_rfl
theorem k17 : chkF Go.Proofs.Try.prog 17 c17 1 r17 = true := by kernel_rfl
theorem k18 : chkF Go.Proofs.Try.prog 18 c18 2 r18 = true := by kernel_rfl
theorem k19 : chkF Go.Proofs.Try.prog 19 c19 1 r19 = true := by kernel_rfl
theorem k20 : chkF Go.Proofs.Try.prog 20 c20 1 r20 = true := by kernel_rfl
theorem k21 : chkF Go.Proofs.Try.prog 21 c21 1 r21 = true := by kernel_rfl
theorem k21r : chkF Go.Proofs.Try.prog 21 c21r 1 r21r = true := by kernel_rfl
theorem k22 : chkF Go.Proofs.Try.prog 22 c22 1 r22 = true := by kernel_rfl
theorem k22r : chkF Go.Proofs.Try.prog 22 c22r 1 r22r = true := by kernel_rfl
theorem k23 : chkF Go.Proofs.Try.prog 23 c23 1 r23 = true := by kernel_rfl
theorem k24 : chkF Go.Proofs.Try.prog 24 c24 1 r24 = true := by kernel_rfl
theorem k25 : chkF Go.Proofs.Try.prog 25 c25 1 r25 = true := by kernel_rfl
theorem k26 : chkF Go.Proofs.Try.prog 26 c26 1 r26 = true := by kernel_rfl
theorem k27 : chkF Go.Proofs.Try.prog 27 c27 3 r27 = true := by kernel_rfl
theorem k28 : chkF Go.Proofs.Try.prog 28 c28 1 r28 = true := by kernel_rfl
theorem k29 : chkF Go.Proofs.Try.prog 29 c29 1 r29 = true := by kernel_rfl
theorem k30 : chkF Go.Proofs.Try.prog 30 c30 3 r30 = true := by kernel_rfl
theorem k31 : chkF Go.Proofs.Try.prog 31 c31 2 r31 = true := by kernel_rfl
theorem k32 : chkF Go.Proofs.Try.prog 32 c32 1 r32 = true := by kernel_rfl
theorem k33 : chkF Go.Proofs.Try.prog 33 c33 2 r33 = true := by kernel_rfl
theorem k34 : chkF Go.Proofs.Try.prog 34 c34 2 r34 = true := by kernel_rfl
theorem k35 : chkF Go.Proofs.Try.prog 35 c35 2 r35 = true := by kernel_rfl
theorem k36 : chkF Go.Proofs.Try.prog 36 c36 2 r36 = true := by kernel_rfl
theorem k37 : chkF Go.Proofs.Try.prog 37 c37 2 r37 = true := by kernel_rfl
theorem k38 : chkF Go.Proofs.Try.prog 38 c38 1 r38 = true := by kernel_rfl
theorem k39 : chkF Go.Proofs.Try.prog 39 c39 1 r39 = true := by kernel_rfl
theorem k40 : chkF Go.Proofs.Try.prog 40 c40 3 r40 = true := by kernel_rfl
theorem k41 : chkF Go.Proofs.Try.prog 41 c41 2 r41 = true := by kernel_rfl
theorem k42 : chkF Go.Proofs.Try.prog 42 c42 2 r42 = true := by kernel_rfl
theorem k43 : chkF Go.Proofs.Try.prog 43 c43 2 r43 = true := by kernel_rfl
theorem k44 : chkF Go.Proofs.Try.prog 44 c44 2 r44 = true := by kernel_rfl
theorem k45 : chkF Go.Proofs.Try.prog 45 c45 2 r45 = true := by kernel_rfl
theorem k46 : chkF Go.Proofs.Try.prog 46 c46 1 r46 = true := by kernel_rfl
end VL
