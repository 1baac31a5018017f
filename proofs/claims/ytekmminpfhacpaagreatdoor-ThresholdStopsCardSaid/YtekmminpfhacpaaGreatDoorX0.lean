import Derived.Test.YtekmminpfhacpaaGreatDoorY1
set_option linter.unusedVariables false
set_option linter.unusedSimpArgs false
namespace Go.Proofs.YtekmminpfhacpaaGreatDoor
section
section
variable {P:Program} {tt:TT} {dm:Option aD} {all:List Oper} {K K':List AV->aj->Prop} {fr:List AV} {M:aj}
end
end
section
section
variable {P:Program} {tt:TT} {all:List Oper} {K K':List AV->aj->Prop} {fr:List AV} {M:aj}
end
end
end Go.Proofs.YtekmminpfhacpaaGreatDoor
