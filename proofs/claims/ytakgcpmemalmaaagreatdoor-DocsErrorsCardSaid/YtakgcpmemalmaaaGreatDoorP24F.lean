/- The program with these calls. -/
import Derived.Test.YtakgcpmemalmaaaGreatDoorP24Ea
import Derived.Test.YtakgcpmemalmaaaGreatDoorP24Eb
import Derived.Test.YtakgcpmemalmaaaGreatDoorP24Ec
import Derived.Test.YtakgcpmemalmaaaGreatDoorP24Ed
namespace Go.Proofs.YtakgcpmemalmaaaGreatDoor
open Go.Vm
open Go.RowKit
set_option linter.unusedSimpArgs false
set_option linter.unusedVariables false
set_option maxRecDepth 100000
def T5a : Vm.Prog:=withEnv T4 51 (litFind [lit3,lit4,lit6,lit7,lit8,lit9])
theorem T5a_ok : TabOk Tryz.prog T5a:=lits_sim T4_ok fun l hl => by
 simp only [List.mem_cons,List.not_mem_nil,or_false] at hl
 rcases hl with rfl | rfl | rfl | rfl | rfl | rfl
 ·exact sim3
 ·exact sim4
 ·exact sim6
 ·exact sim7
 ·exact sim8
 ·exact sim9
def T5b : Vm.Prog:=withEnv T5a 64 (litFind [lit19,lit20,lit24,lit25,lit26,lit27])
theorem T5b_ok : TabOk Tryz.prog T5b:=lits_sim T5a_ok fun l hl => by
 simp only [List.mem_cons,List.not_mem_nil,or_false] at hl
 rcases hl with rfl | rfl | rfl | rfl | rfl | rfl
 ·exact sim19
 ·exact sim20
 ·exact sim24
 ·exact sim25
 ·exact sim26
 ·exact sim27
def T5c : Vm.Prog:=withEnv T5b 53 (litFind [lit11,lit13,lit14,lit22])
theorem T5c_ok : TabOk Tryz.prog T5c:=lits_sim T5b_ok fun l hl => by
 simp only [List.mem_cons,List.not_mem_nil,or_false] at hl
 rcases hl with rfl | rfl | rfl | rfl
 ·exact sim11
 ·exact sim13
 ·exact sim14
 ·exact sim22
theorem sim5 : CSim Tryz.prog 15 lit5.args lit5.h lit5.r lit5.h':=Lit.gc_ok T5c_ok (k:=100000) (l:=src5) rfl (by kernel_rfl)
theorem sim10 : CSim Tryz.prog 15 lit10.args lit10.h lit10.r lit10.h':=Lit.gc_ok T5c_ok (k:=100000) (l:=src10) rfl (by kernel_rfl)
theorem sim12 : CSim Tryz.prog 16 lit12.args lit12.h lit12.r lit12.h':=Lit.gc_ok T5c_ok (k:=100000) (l:=src12) rfl (by kernel_rfl)
theorem sim15 : CSim Tryz.prog 17 lit15.args lit15.h lit15.r lit15.h':=Lit.gc_ok T5c_ok (k:=100000) (l:=src15) rfl (by kernel_rfl)
theorem sim16 : CSim Tryz.prog 18 lit16.args lit16.h lit16.r lit16.h':=Lit.gc_ok T5c_ok (k:=100000) (l:=src16) rfl (by kernel_rfl)
theorem sim17 : CSim Tryz.prog 15 lit17.args lit17.h lit17.r lit17.h':=Lit.gc_ok T5c_ok (k:=100000) (l:=src17) rfl (by kernel_rfl)
theorem sim18 : CSim Tryz.prog 16 lit18.args lit18.h lit18.r lit18.h':=Lit.gc_ok T5c_ok (k:=100000) (l:=src18) rfl (by kernel_rfl)
theorem sim21 : CSim Tryz.prog 19 lit21.args lit21.h lit21.r lit21.h':=Lit.gc_ok T5c_ok (k:=100000) (l:=src21) rfl (by kernel_rfl)
theorem sim23 : CSim Tryz.prog 16 lit23.args lit23.h lit23.r lit23.h':=Lit.gc_ok T5c_ok (k:=100000) (l:=src23) rfl (by kernel_rfl)
theorem sim28 : CSim Tryz.prog 19 lit28.args lit28.h lit28.r lit28.h':=Lit.gc_ok T5c_ok (k:=100000) (l:=src28) rfl (by kernel_rfl)
def T6a : Vm.Prog:=withEnv T5c 15 (litFind [lit5,lit10,lit17])
theorem T6a_ok : TabOk Tryz.prog T6a:=lits_sim T5c_ok fun l hl => by
 simp only [List.mem_cons,List.not_mem_nil,or_false] at hl
 rcases hl with rfl | rfl | rfl
 ·exact sim5
 ·exact sim10
 ·exact sim17
def T6b : Vm.Prog:=withEnv T6a 16 (litFind [lit12,lit18,lit23])
theorem T6b_ok : TabOk Tryz.prog T6b:=lits_sim T6a_ok fun l hl => by
 simp only [List.mem_cons,List.not_mem_nil,or_false] at hl
 rcases hl with rfl | rfl | rfl
 ·exact sim12
 ·exact sim18
 ·exact sim23
def T6c : Vm.Prog:=withEnv T6b 17 (litFind [lit15])
theorem T6c_ok : TabOk Tryz.prog T6c:=lits_sim T6b_ok fun l hl => by
 simp only [List.mem_cons,List.not_mem_nil,or_false] at hl
 rcases hl with rfl
 ·exact sim15
def T6d : Vm.Prog:=withEnv T6c 18 (litFind [lit16])
theorem T6d_ok : TabOk Tryz.prog T6d:=lits_sim T6c_ok fun l hl => by
 simp only [List.mem_cons,List.not_mem_nil,or_false] at hl
 rcases hl with rfl
 ·exact sim16
def T6e : Vm.Prog:=withEnv T6d 19 (litFind [lit21,lit28])
theorem T6e_ok : TabOk Tryz.prog T6e:=lits_sim T6d_ok fun l hl => by
 simp only [List.mem_cons,List.not_mem_nil,or_false] at hl
 rcases hl with rfl | rfl
 ·exact sim21
 ·exact sim28
theorem ran : saysTrue (arunE T6e 100000 3 [] AH.empty)=true:=by kernel_rfl
theorem docs_yes : ∀ args h r h',yes args h=some (r,h')→CallOk Tryz.prog 3∧ASim Tryz.prog 3 args h r h':=pieces_yes T6e_ok ran rfl
end Go.Proofs.YtakgcpmemalmaaaGreatDoor
