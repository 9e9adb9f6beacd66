/-
  The order of the base point is prime: a chain of Pocklington's tests. No program in sight.
-/
import Derived.Test.YtnbdeajjfhlmnaaPrimeP
namespace Go.Proofs.Ytnbdeajjfhlmnaa

theorem prm_1224481 : Prm 1224481 := prm_trial (s := 1106) (by decide) (by decide) (by decide +kernel)
theorem prm_531581 : Prm 531581 := prm_trial (s := 729) (by decide) (by decide) (by decide +kernel)
theorem prm_1257559732178653 : Prm 1257559732178653 :=
  prm_two' (q := 1224481) (M := 1027014492) (a := 2) (p := 531581) (L := 2365697292) (b := 2) prm_1224481 prm_531581 (by decide +kernel) (by decide +kernel) (by decide +kernel) (by decide +kernel) (by decide +kernel) (by decide +kernel) (by decide +kernel) (by decide +kernel) (by decide +kernel) (by decide +kernel) (by decide +kernel) (by decide +kernel) (by decide +kernel)
theorem prm_4434155615661930479 : Prm 4434155615661930479 :=
  prm_one' (q := 1257559732178653) (M := 3526) (a := 2) prm_1257559732178653 (by decide +kernel) (by decide +kernel) (by decide +kernel) (by decide +kernel) (by decide +kernel) (by decide +kernel) (by decide +kernel)
theorem prm_172054593956031949258510691 : Prm 172054593956031949258510691 :=
  prm_one' (q := 4434155615661930479) (M := 38802110) (a := 2) prm_4434155615661930479 (by decide +kernel) (by decide +kernel) (by decide +kernel) (by decide +kernel) (by decide +kernel) (by decide +kernel) (by decide +kernel)
theorem prm_19757330305831588566944191468367130476339 : Prm 19757330305831588566944191468367130476339 :=
  prm_one' (q := 172054593956031949258510691) (M := 114831751082918) (a := 2) prm_172054593956031949258510691 (by decide +kernel) (by decide +kernel) (by decide +kernel) (by decide +kernel) (by decide +kernel) (by decide +kernel) (by decide +kernel)
theorem prm_276602624281642239937218680557139826668747 : Prm 276602624281642239937218680557139826668747 :=
  prm_one' (q := 19757330305831588566944191468367130476339) (M := 14) (a := 2) prm_19757330305831588566944191468367130476339 (by decide +kernel) (by decide +kernel) (by decide +kernel) (by decide +kernel) (by decide +kernel) (by decide +kernel) (by decide +kernel)
theorem prm_7237005577332262213973186563042994240857116359379907606001950938285454250989 : Prm 7237005577332262213973186563042994240857116359379907606001950938285454250989 :=
  prm_one' (q := 276602624281642239937218680557139826668747) (M := 26163907866482859529727157400808004) (a := 2) prm_276602624281642239937218680557139826668747 (by decide +kernel) (by decide +kernel) (by decide +kernel) (by decide +kernel) (by decide +kernel) (by decide +kernel) (by decide +kernel)
end Go.Proofs.Ytnbdeajjfhlmnaa
