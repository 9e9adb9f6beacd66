/-
  2^255 - 19 is prime: a chain of Pocklington's tests. No program in sight.
-/
import Derived.Test.YtnbdeajjfhlmnaaPrime
namespace Go.Proofs.Ytnbdeajjfhlmnaa

theorem prm_8574133 : Prm 8574133 := prm_trial (s := 2928) (by decide) (by decide) (by decide +kernel)
theorem prm_127 : Prm 127 := prm_trial (s := 11) (by decide) (by decide) (by decide +kernel)
theorem prm_430751 : Prm 430751 := prm_trial (s := 656) (by decide) (by decide) (by decide +kernel)
theorem prm_4153 : Prm 4153 := prm_trial (s := 64) (by decide) (by decide) (by decide +kernel)
theorem prm_1919519569386763 : Prm 1919519569386763 :=
  prm_two' (q := 8574133) (M := 223873314) (a := 2) (p := 127) (L := 15114327318006) (b := 2) prm_8574133 prm_127 (by decide +kernel) (by decide +kernel) (by decide +kernel) (by decide +kernel) (by decide +kernel) (by decide +kernel) (by decide +kernel) (by decide +kernel) (by decide +kernel) (by decide +kernel) (by decide +kernel) (by decide +kernel) (by decide +kernel)
theorem prm_569003 : Prm 569003 := prm_trial (s := 754) (by decide) (by decide) (by decide +kernel)
theorem prm_2773320623 : Prm 2773320623 :=
  prm_one' (q := 569003) (M := 4874) (a := 2) prm_569003 (by decide +kernel) (by decide +kernel) (by decide +kernel) (by decide +kernel) (by decide +kernel) (by decide +kernel) (by decide +kernel)
theorem prm_72106336199 : Prm 72106336199 :=
  prm_one' (q := 2773320623) (M := 26) (a := 2) prm_2773320623 (by decide +kernel) (by decide +kernel) (by decide +kernel) (by decide +kernel) (by decide +kernel) (by decide +kernel) (by decide +kernel)
theorem prm_31757755568855353 : Prm 31757755568855353 :=
  prm_two' (q := 430751) (M := 73726481352) (a := 2) (p := 4153) (L := 7646943310584) (b := 2) prm_430751 prm_4153 (by decide +kernel) (by decide +kernel) (by decide +kernel) (by decide +kernel) (by decide +kernel) (by decide +kernel) (by decide +kernel) (by decide +kernel) (by decide +kernel) (by decide +kernel) (by decide +kernel) (by decide +kernel) (by decide +kernel)
theorem prm_75445702479781427272750846543864801 : Prm 75445702479781427272750846543864801 :=
  prm_two' (q := 1919519569386763) (M := 39304471641247389600) (a := 2) (p := 72106336199) (L := 1046311689884858398375200) (b := 2) prm_1919519569386763 prm_72106336199 (by decide +kernel) (by decide +kernel) (by decide +kernel) (by decide +kernel) (by decide +kernel) (by decide +kernel) (by decide +kernel) (by decide +kernel) (by decide +kernel) (by decide +kernel) (by decide +kernel) (by decide +kernel) (by decide +kernel)
theorem prm_74058212732561358302231226437062788676166966415465897661863160754340907 : Prm 74058212732561358302231226437062788676166966415465897661863160754340907 :=
  prm_two' (q := 75445702479781427272750846543864801) (M := 981609426360740691344999861639072106) (a := 2) (p := 31757755568855353) (L := 2331972502653487852620185443007392165117953542933313402) (b := 2) prm_75445702479781427272750846543864801 prm_31757755568855353 (by decide +kernel) (by decide +kernel) (by decide +kernel) (by decide +kernel) (by decide +kernel) (by decide +kernel) (by decide +kernel) (by decide +kernel) (by decide +kernel) (by decide +kernel) (by decide +kernel) (by decide +kernel) (by decide +kernel)
theorem prm_57896044618658097711785492504343953926634992332820282019728792003956564819949 : Prm 57896044618658097711785492504343953926634992332820282019728792003956564819949 :=
  prm_one' (q := 74058212732561358302231226437062788676166966415465897661863160754340907) (M := 781764) (a := 2) prm_74058212732561358302231226437062788676166966415465897661863160754340907 (by decide +kernel) (by decide +kernel) (by decide +kernel) (by decide +kernel) (by decide +kernel) (by decide +kernel) (by decide +kernel)
end Go.Proofs.Ytnbdeajjfhlmnaa
