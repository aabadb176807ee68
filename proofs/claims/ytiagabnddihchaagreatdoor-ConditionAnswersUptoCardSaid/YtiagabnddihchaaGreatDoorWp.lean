/- Conditions over finite domains (part Wp) -/
import Derived.Test.YtiagabnddihchaaGreatDoorWn
set_option maxRecDepth 100000
set_option maxHeartbeats 4000000
set_option linter.all false
namespace Go.Proofs.YtiagabnddihchaaGreatDoor
section
open Go.Am
attribute [local simp, local push_cast] num boo str ints aV aTab aRow rRow vE zU
theorem Made.valid {d:List Row} {n:Nat} {e:Ex} (h:Made (zZ d) n 2 e) (hn:n<=4) (hd:DomOk d):zI d e=0:=by
 have hP:4 ^ n<=4 ^ 4:=Nat.pow_le_pow_right (by omega) hn
 have h1:=h.dep
 have h2:=h.size
 exact hd.valid (h.type (by omega) (by omega))
theorem c_fexprN {xs types:List Int} (hx:ve xs) (ht:types.length<=1000) (d:Nat) (n:Int) (hn:n=d) (hd:d<=99):CE xs types n (exprF xs types d):=by rw [hn];exact c_fexpr hx ht d hd
theorem tape_of {t:List Int} (ht: ∀x∈t,i64 x):ve (t.take 2000):=⟨by rw [List.length_take];omega,fun x hx=>ht x (List.mem_of_mem_take hx)⟩
theorem kn2:Kn 2:= .inr (.inl rfl)
end
end Go.Proofs.YtiagabnddihchaaGreatDoor
